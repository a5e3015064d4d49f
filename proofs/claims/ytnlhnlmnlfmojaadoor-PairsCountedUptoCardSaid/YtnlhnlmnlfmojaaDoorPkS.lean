/-
  Packed: Terms in rows of codes: plain Lean, no program in sight. Rules that are the same but for their variables: plain Lean, no program in sight. Names: what is right UTF-8 and of letters; plain Lean, no program in sight. Names: what the program's and the document's functions answer. Names: the loops over a text's runes. Names: the document's way. Signatures: function values that tell of a symbol; the first that they tell of. Signatures: what is wrong with one. Signatures: the document's way; what is wrong with one for a system. Signatures for a system: marked names. Rows of codes: what holds of one; the document's scan of a term. Rows that grow in a block of their own; the variables of a row. Maps from numbers; the variables of a row by the program. The program's reader of terms. What is wrong with a row: the program's answer is the document's. Rules: what is wrong with one. Systems: what is wrong with one.
-/
import Derived.Lib.ValidLaws
import Derived.Lib.MapLaws
import Derived.Lib.TrimUEq
import Derived.Test.YtnlhnlmnlfmojaaDoorAmFns
import Derived.Test.YtnlhnlmnlfmojaaDoorPkB
set_option linter.unusedVariables false
set_option linter.unusedSimpArgs false
set_option linter.unnecessarySimpa false
namespace Go.Proofs.Sys

/-- Names and arities. -/
abbrev Sg := List (List UInt8 × Int)
def kids (sig : Sg) (c : Int) : Nat := if c < 0 then 0 else (((sig[c.toNat]?).map fun (x : List UInt8 × Int) => x.2).getD 0).toNat
def badC (n : Nat) (c : Int) : Bool := decide ((n : Int) ≤ c) || decide (c < -1048576)
/-- So many terms are taken off a row: what is wrong, and what is left. -/
def eat (sig : Sg) : Nat → List Int → Int × List Int
  | 0, t => (0, t)
  | _ + 1, [] => (31, [])
  | n + 1, c :: t => if badC sig.length c then (30, c :: t) else eat sig (n + kids sig c) t
/-- What is wrong with a row that is to hold so many terms. -/
def scan (sig : Sg) : Nat → List Int → Int
  | 0, [] => 0
  | 0, _ :: _ => 32
  | _ + 1, [] => 31
  | n + 1, c :: t => if badC sig.length c then 30 else scan sig (n + kids sig c) t
theorem scan_eat (sig : Sg) : ∀ (t : List Int) (n : Nat), scan sig n t = if (eat sig n t).1 = 0 then (if (eat sig n t).2 = [] then 0 else 32) else (eat sig n t).1
  | [], 0 => by simp [scan, eat]
  | [], n + 1 => by simp [scan, eat]
  | c :: t, 0 => by simp [scan, eat]
  | c :: t, n + 1 => by
    unfold scan eat
    split
    · simp
    · exact scan_eat sig t _
theorem eat_add (sig : Sg) : ∀ (t : List Int) (m n : Nat), eat sig (m + n) t = if (eat sig m t).1 = 0 then eat sig n (eat sig m t).2 else eat sig m t
  | [], 0, n => by simp [eat]
  | [], m + 1, n => by rw [show m + 1 + n = (m + n) + 1 by omega]; simp [eat]
  | c :: t, 0, n => by simp [eat]
  | c :: t, m + 1, n => by
    rw [show m + 1 + n = (m + n) + 1 by omega]
    have e1 : eat sig (m + n + 1) (c :: t) = if badC sig.length c then (30, c :: t) else eat sig (m + n + kids sig c) t := by rw [eat]
    have e2 : eat sig (m + 1) (c :: t) = if badC sig.length c then (30, c :: t) else eat sig (m + kids sig c) t := by rw [eat]
    rw [e1, e2]
    split
    · simp
    · rw [show m + n + kids sig c = (m + kids sig c) + n by omega]
      exact eat_add sig t _ n
theorem eat_suffix (sig : Sg) : ∀ (t : List Int) (n : Nat), ∃ u, t = u ++ (eat sig n t).2
  | [], 0 => ⟨[], rfl⟩
  | [], n + 1 => ⟨[], rfl⟩
  | c :: t, 0 => ⟨[], rfl⟩
  | c :: t, n + 1 => by
    unfold eat
    split
    · exact ⟨[], rfl⟩
    · obtain ⟨u, hu⟩ := eat_suffix sig t (n + kids sig c)
      exact ⟨c :: u, by rw [List.cons_append, ← hu]⟩
theorem eat_len (sig : Sg) (t : List Int) (n : Nat) : (eat sig n t).2.length ≤ t.length := by
  obtain ⟨u, hu⟩ := eat_suffix sig t n
  have := congrArg List.length hu
  rw [List.length_append] at this; omega
theorem eat_err (sig : Sg) : ∀ (t : List Int) (n : Nat), (eat sig n t).1 = 0 ∨ (eat sig n t).1 = 30 ∨ (eat sig n t).1 = 31
  | [], 0 => .inl rfl
  | [], n + 1 => .inr (.inr rfl)
  | c :: t, 0 => .inl rfl
  | c :: t, n + 1 => by
    unfold eat
    split
    · exact .inr (.inl rfl)
    · exact eat_err sig t _
/-- A term takes at least one code. -/
theorem eat_lt (sig : Sg) {t : List Int} {n : Nat} (h : (eat sig (n + 1) t).1 = 0) : (eat sig (n + 1) t).2.length < t.length := by
  cases t with
  | nil => simp [eat] at h
  | cons c t =>
    unfold eat at h ⊢
    split at h
    · simp at h
    · rename_i hb
      rw [if_neg hb]
      have := eat_len sig t (n + kids sig c)
      simp only [List.length_cons]; omega
/-- A row that is a term. -/
def isTerm (sig : Sg) (t : List Int) : Prop := scan sig 1 t = 0
theorem isTerm_ne {sig : Sg} {t : List Int} (h : isTerm sig t) : t ≠ [] := by
  rintro rfl; simp [isTerm, scan] at h
theorem scan_codes (sig : Sg) : ∀ (t : List Int) (n : Nat), scan sig n t = 0 → ∀ c ∈ t, -1048576 ≤ c ∧ c < sig.length
  | [], n, _, c, hc => by simp at hc
  | x :: t, 0, h, c, hc => by simp [scan] at h
  | x :: t, n + 1, h, c, hc => by
    unfold scan at h
    split at h
    · simp at h
    · rename_i hb
      rcases List.mem_cons.mp hc with rfl | hc
      · simp only [badC, Bool.or_eq_true, decide_eq_true_eq, not_or] at hb
        omega
      · exact scan_codes sig t _ h c hc
/-- Codes of variables may be others: the scan is the same. -/
theorem scan_congr (sig : Sg) : ∀ (t u : List Int) (n : Nat), t.length = u.length → (∀ (i : Nat) (x y : Int), t[i]? = some x → u[i]? = some y → x = y ∨ (x < 0 ∧ y < 0 ∧ -1048576 ≤ x ∧ -1048576 ≤ y)) → scan sig n t = scan sig n u
  | [], [], n, _, _ => rfl
  | [], _ :: _, _, h, _ => by simp at h
  | _ :: _, [], _, h, _ => by simp at h
  | x :: t, y :: u, 0, _, _ => rfl
  | x :: t, y :: u, n + 1, hl, hc => by
    have h0 := hc 0 x y rfl rfl
    have e1 : badC sig.length x = badC sig.length y := by
      rcases h0 with rfl | ⟨h1, h2, h3, h4⟩
      · rfl
      · have a : ¬ ((sig.length : Int) ≤ x) := by omega
        have b : ¬ ((sig.length : Int) ≤ y) := by omega
        have c : ¬ (x < -1048576) := by omega
        have d : ¬ (y < -1048576) := by omega
        simp [badC, a, b, c, d]
    have e2 : kids sig x = kids sig y := by
      rcases h0 with rfl | ⟨h1, h2, _⟩
      · rfl
      · unfold kids; rw [if_pos h1, if_pos h2]
    unfold scan
    rw [e1, e2]
    split
    · rfl
    · exact scan_congr sig t u _ (by simpa using hl) fun i x y hx hy => hc (i + 1) x y (by simpa using hx) (by simpa using hy)

/-! ### variables -/
/-- The variables of a row, as they are met, behind some. -/
def varsGo : List Int → List Int → List Int
  | out, [] => out
  | out, c :: t => if c < 0 ∧ (-1 - c) ∉ out then varsGo (out ++ [-1 - c]) t else varsGo out t
def vars (t : List Int) : List Int := varsGo [] t
theorem mem_varsGo : ∀ (t out : List Int) (v : Int), v ∈ varsGo out t ↔ v ∈ out ∨ ∃ c ∈ t, c < 0 ∧ v = -1 - c
  | [], out, v => by simp [varsGo]
  | c :: t, out, v => by
    unfold varsGo
    have split1 : (∃ d ∈ c :: t, d < 0 ∧ v = -1 - d) ↔ ((c < 0 ∧ v = -1 - c) ∨ ∃ d ∈ t, d < 0 ∧ v = -1 - d) := by simp
    rw [split1]
    split
    · rename_i h
      rw [mem_varsGo t, List.mem_append, List.mem_singleton]
      constructor
      · rintro ((h1 | h1) | h1)
        · exact .inl h1
        · exact .inr (.inl ⟨h.1, h1⟩)
        · exact .inr (.inr h1)
      · rintro (h1 | h1 | h1)
        · exact .inl (.inl h1)
        · exact .inl (.inr h1.2)
        · exact .inr h1
    · rename_i h
      rw [mem_varsGo t]
      constructor
      · rintro (h1 | h1)
        · exact .inl h1
        · exact .inr (.inr h1)
      · rintro (h1 | h1 | h1)
        · exact .inl h1
        · refine .inl (Classical.byContradiction fun hn => h ⟨h1.1, ?_⟩)
          rw [← h1.2]; exact hn
        · exact .inr h1
theorem mem_vars {t : List Int} {v : Int} : v ∈ vars t ↔ ∃ c ∈ t, c < 0 ∧ v = -1 - c := by
  unfold vars; rw [mem_varsGo]; simp
end Go.Proofs.Sys

namespace Go.Proofs.Sys

/-- The codes of variables that were met, behind some. -/
def metGo : List Int → List Int → List Int
  | met, [] => met
  | met, c :: t => if c < 0 ∧ c ∉ met then metGo (met ++ [c]) t else metGo met t
/-- A row with its variables numbered as they are met. -/
def canonGo : List Int → List Int → List Int
  | _, [] => []
  | met, c :: t => if c < 0 then (-1 - (met.idxOf c : Int)) :: canonGo (if c ∈ met then met else met ++ [c]) t else c :: canonGo met t
theorem metGo_app : ∀ (a b met : List Int), metGo met (a ++ b) = metGo (metGo met a) b
  | [], b, met => rfl
  | c :: a, b, met => by
    have e1 : metGo met (c :: a ++ b) = if c < 0 ∧ c ∉ met then metGo (met ++ [c]) (a ++ b) else metGo met (a ++ b) := by rw [List.cons_append, metGo]
    have e2 : metGo met (c :: a) = if c < 0 ∧ c ∉ met then metGo (met ++ [c]) a else metGo met a := by rw [metGo]
    rw [e1, e2]
    split
    · exact metGo_app a b _
    · exact metGo_app a b _
theorem metGo_pre : ∀ (t met : List Int), ∃ u, metGo met t = met ++ u
  | [], met => ⟨[], by simp [metGo]⟩
  | c :: t, met => by
    unfold metGo
    split
    · obtain ⟨u, hu⟩ := metGo_pre t (met ++ [c])
      exact ⟨c :: u, by rw [hu]; simp⟩
    · exact metGo_pre t met
theorem metGo_nodup : ∀ (t met : List Int), met.Nodup → (metGo met t).Nodup
  | [], met, h => h
  | c :: t, met, h => by
    unfold metGo
    split
    · rename_i hc
      refine metGo_nodup t _ ?_
      rw [List.nodup_append]
      refine ⟨h, by simp, fun a ha b hb => ?_⟩
      simp only [List.mem_singleton] at hb
      subst hb
      exact fun e => hc.2 (e ▸ ha)
    · exact metGo_nodup t met h
theorem mem_metGo : ∀ (t met : List Int) (c : Int), c ∈ metGo met t ↔ c ∈ met ∨ (c ∈ t ∧ c < 0)
  | [], met, c => by simp [metGo]
  | d :: t, met, c => by
    unfold metGo
    have h1 : (c ∈ d :: t ∧ c < 0) ↔ ((c = d ∧ c < 0) ∨ (c ∈ t ∧ c < 0)) := by
      rw [List.mem_cons, or_and_right]
    rw [h1]
    split
    · rename_i hd
      rw [mem_metGo t, List.mem_append, List.mem_singleton, or_assoc]
      constructor
      · rintro (h | rfl | h)
        · exact .inl h
        · exact .inr (.inl ⟨rfl, hd.1⟩)
        · exact .inr (.inr h)
      · rintro (h | h | h)
        · exact .inl h
        · exact .inr (.inl h.1)
        · exact .inr (.inr h)
    · rename_i hd
      rw [mem_metGo t]
      constructor
      · rintro (h | h)
        · exact .inl h
        · exact .inr (.inr h)
      · rintro (h | ⟨rfl, h⟩ | h)
        · exact .inl h
        · exact .inl (Classical.byContradiction fun hn => hd ⟨h, hn⟩)
        · exact .inr h
theorem idx_stable {met u : List Int} {c : Int} (h : c ∈ met) : (met ++ u).idxOf c = met.idxOf c := by rw [List.idxOf_append, if_pos h]
theorem idx_new {met : List Int} {c : Int} (h : c ∉ met) : (met ++ [c]).idxOf c = met.idxOf c := by
  rw [List.idxOf_append, if_neg h, List.idxOf_eq_length h]; simp
/-- What a code becomes, in the light of all that are met. -/
def renum (met : List Int) (c : Int) : Int := if c < 0 then -1 - (met.idxOf c : Int) else c
theorem canonGo_eq : ∀ (t met : List Int), canonGo met t = t.map (renum (metGo met t))
  | [], met => rfl
  | c :: t, met => by
    unfold canonGo
    split
    · rename_i hc
      rw [List.map_cons, canonGo_eq t]
      by_cases hm : c ∈ met
      · have e : metGo met (c :: t) = metGo met t := by
          rw [metGo, if_neg (fun h => h.2 hm)]
        rw [if_pos hm, e]
        obtain ⟨u, hu⟩ := metGo_pre t met
        congr 1
        unfold renum
        rw [if_pos hc, hu, idx_stable hm]
      · have e : metGo met (c :: t) = metGo (met ++ [c]) t := by
          rw [metGo, if_pos ⟨hc, hm⟩]
        rw [if_neg hm, e]
        obtain ⟨u, hu⟩ := metGo_pre t (met ++ [c])
        congr 1
        unfold renum
        rw [if_pos hc, hu, idx_stable (by simp), idx_new hm]
    · rename_i hc
      have e : metGo met (c :: t) = metGo met t := by
        rw [metGo, if_neg (fun h => hc h.1)]
      rw [List.map_cons, canonGo_eq t, e]
      congr 1
      unfold renum
      rw [if_neg hc]

/-! ### when two rows are the same but for their variables -/
def canon (t : List Int) : List Int := canonGo [] t
def mets (t : List Int) : List Int := metGo [] t
theorem mets_nodup (t : List Int) : (mets t).Nodup := metGo_nodup t [] List.nodup_nil
theorem mem_mets {t : List Int} {c : Int} : c ∈ mets t ↔ c ∈ t ∧ c < 0 := by unfold mets; rw [mem_metGo]; simp
theorem canon_eq (t : List Int) : canon t = t.map (renum (mets t)) := canonGo_eq t []
/-- Two rows have variables at the same places, and they stand and fall together. -/
structure Like (x y : List Int) : Prop where
  len : x.length = y.length
  sym : ∀ (i : Nat) (a b : Int), x[i]? = some a → y[i]? = some b → (0 ≤ a ∨ 0 ≤ b) → a = b
  num : (mets x).length = (mets y).length
  var : ∀ (i k : Nat) (a b c d : Int), x[i]? = some a → y[i]? = some b → (mets x)[k]? = some c → (mets y)[k]? = some d → (a = c ↔ b = d)
theorem idx_iff {l : List Int} (hn : l.Nodup) {k : Nat} {a c : Int} (hk : l[k]? = some c) : a = c ↔ l.idxOf a = k := by
  obtain ⟨hlt, rfl⟩ := List.getElem?_eq_some_iff.mp hk
  constructor
  · rintro rfl
    exact hn.idxOf_getElem k hlt
  · intro h
    have ha : a ∈ l := by
      apply Classical.byContradiction
      intro hna
      rw [List.idxOf_eq_length hna] at h
      omega
    subst h
    exact (List.getElem_idxOf hlt).symm
theorem like_iff (x y : List Int) : Like x y ↔ x.length = y.length ∧ canon x = canon y := by
  constructor
  · intro h
    refine ⟨h.len, ?_⟩
    rw [canon_eq, canon_eq]
    apply List.ext_getElem?
    intro i
    rw [List.getElem?_map, List.getElem?_map]
    cases hx : x[i]? with
    | none =>
      have : y[i]? = none := by
        rw [List.getElem?_eq_none_iff] at hx ⊢
        rw [← h.len]; exact hx
      rw [this]; rfl
    | some a =>
      have hi : i < y.length := by rw [← h.len]; exact (List.getElem?_eq_some_iff.mp hx).1
      have hy : y[i]? = some y[i] := List.getElem?_eq_getElem hi
      rw [hy]
      simp only [Option.map_some, Option.some.injEq]
      unfold renum
      by_cases ha : a < 0
      · have hb : y[i] < 0 := by
          apply Classical.byContradiction
          intro hb
          have := h.sym i a _ hx hy (.inr (by omega))
          omega
        rw [if_pos ha, if_pos hb]
        have hma : a ∈ mets x := mem_mets.mpr ⟨List.mem_of_getElem? hx, ha⟩
        have hlt := List.idxOf_lt_length_of_mem hma
        have hk : (mets x)[(mets x).idxOf a]? = some a := by
          rw [List.getElem?_eq_getElem hlt, List.getElem_idxOf]
        have hk2 : (mets y)[(mets x).idxOf a]? = some ((mets y)[(mets x).idxOf a]'(by rw [← h.num]; exact hlt)) := List.getElem?_eq_getElem _
        have := (h.var i _ a _ _ _ hx hy hk hk2).mp rfl
        rw [(idx_iff (mets_nodup y) hk2).mp this]
      · have := h.sym i a _ hx hy (.inl (by omega))
        rw [← this, if_neg ha, if_neg ha]
  · rintro ⟨hl, hc⟩
    rw [canon_eq, canon_eq] at hc
    have at_ : ∀ (i : Nat) (a b : Int), x[i]? = some a → y[i]? = some b → renum (mets x) a = renum (mets y) b := by
      intro i a b ha hb
      have := congrArg (·[i]?) hc
      simp only [List.getElem?_map, ha, hb, Option.map_some, Option.some.injEq] at this
      exact this
    have sgn : ∀ (i : Nat) (a b : Int), x[i]? = some a → y[i]? = some b → (a < 0 ↔ b < 0) := by
      intro i a b ha hb
      have := at_ i a b ha hb
      unfold renum at this
      constructor
      · intro h
        apply Classical.byContradiction
        intro hn
        rw [if_pos h, if_neg hn] at this; omega
      · intro h
        apply Classical.byContradiction
        intro hn
        rw [if_neg hn, if_pos h] at this; omega
    have idx : ∀ (i : Nat) (a b : Int), x[i]? = some a → y[i]? = some b → a < 0 → (mets x).idxOf a = (mets y).idxOf b := by
      intro i a b ha hb hn
      have := at_ i a b ha hb
      unfold renum at this
      rw [if_pos hn, if_pos ((sgn i a b ha hb).mp hn)] at this
      omega
    have half : ∀ (x y : List Int), x.length = y.length → (∀ (i : Nat) (a b : Int), x[i]? = some a → y[i]? = some b → (a < 0 ↔ b < 0)) → (∀ (i : Nat) (a b : Int), x[i]? = some a → y[i]? = some b → a < 0 → (mets x).idxOf a = (mets y).idxOf b) → (mets x).length ≤ (mets y).length := by
      intro x y hl sgn idx
      cases hm : (mets x).length with
      | zero => omega
      | succ n =>
        have hlt : n < (mets x).length := by omega
        have hmem : (mets x)[n] ∈ mets x := List.getElem_mem hlt
        obtain ⟨h1, h2⟩ := mem_mets.mp hmem
        obtain ⟨i, hi⟩ := List.getElem?_of_mem h1
        have hiy : i < y.length := by rw [← hl]; exact (List.getElem?_eq_some_iff.mp hi).1
        have hy : y[i]? = some y[i] := List.getElem?_eq_getElem hiy
        have e := idx i _ _ hi hy h2
        rw [(mets_nodup x).idxOf_getElem n hlt] at e
        have hb : y[i] ∈ mets y := mem_mets.mpr ⟨List.getElem_mem hiy, (sgn i _ _ hi hy).mp h2⟩
        have := List.idxOf_lt_length_of_mem hb
        omega
    refine ⟨hl, ?_, ?_, ?_⟩
    · intro i a b ha hb h
      have h1 := at_ i a b ha hb
      have h2 := sgn i a b ha hb
      unfold renum at h1
      rw [if_neg (by omega), if_neg (by omega)] at h1
      exact h1
    · have h1 := half x y hl sgn idx
      have h2 := half y x hl.symm (fun i a b ha hb => (sgn i b a hb ha).symm) (fun i a b ha hb hn => (idx i b a hb ha ((sgn i b a hb ha).mpr hn)).symm)
      omega
    · intro i k a b c d ha hb hc hd
      by_cases hn : a < 0
      · rw [idx_iff (mets_nodup x) hc, idx_iff (mets_nodup y) hd, idx i a b ha hb hn]
      · have h1 : c < 0 := (mem_mets.mp (List.mem_of_getElem? hc)).2
        have h2 : d < 0 := (mem_mets.mp (List.mem_of_getElem? hd)).2
        have h3 := sgn i a b ha hb
        constructor <;> intro h <;> omega
/-- Rows told apart: two lists of the same lengths. -/
theorem canon_split (a b : List Int) : canon (a ++ b) = canonGo [] a ++ canonGo (metGo [] a) b := by
  rw [canon_eq, List.map_append, canonGo_eq, canonGo_eq]
  have e : mets (a ++ b) = metGo (metGo [] a) b := metGo_app a b []
  rw [e]
  congr 1
  obtain ⟨u, hu⟩ := metGo_pre b (metGo [] a)
  apply List.map_congr_left
  intro c hc
  unfold renum
  split
  · rename_i hn
    rw [hu, idx_stable ((mem_metGo a [] c).mpr (.inr ⟨hc, hn⟩))]
  · rfl
/-- The variables by their numbers are the codes that are met. -/
theorem vars_mets (t : List Int) : (vars t).map (fun v => -1 - v) = mets t := by
  have key : ∀ (t out : List Int), (varsGo out t).map (fun v => -1 - v) = metGo (out.map fun v => -1 - v) t := by
    intro t
    induction t with
    | nil => intro out; rfl
    | cons c t ih =>
      intro out
      unfold varsGo metGo
      have hmem : (-1 - c) ∈ out ↔ c ∈ out.map fun v => -1 - v := by
        rw [List.mem_map]
        constructor
        · intro h; exact ⟨_, h, by omega⟩
        · rintro ⟨v, hv, rfl⟩
          have : -1 - (-1 - v) = v := by omega
          rw [this]; exact hv
      by_cases hc : c < 0 ∧ (-1 - c) ∉ out
      · rw [if_pos hc, if_pos ⟨hc.1, fun h => hc.2 (hmem.mpr h)⟩, ih]
        rw [List.map_append, List.map_singleton]
        have : -1 - (-1 - c) = c := by omega
        rw [this]
      · rw [if_neg hc, if_neg (fun h => hc ⟨h.1, fun h' => h.2 (hmem.mp h')⟩), ih]
  exact key t []

/-! ### the same, with their counts -/
theorem perm_of_counts {α : Type} [BEq α] [LawfulBEq α] : ∀ (a b : List α), a.length = b.length → (∀ x ∈ a, a.count x = b.count x) → a.Perm b
  | [], b, hl, _ => by
    have : b = [] := List.length_eq_zero_iff.mp (by simpa using hl.symm)
    rw [this]
  | x :: a, b, hl, hc => by
    have h1 := hc x (by simp)
    have hx : x ∈ b := by
      apply List.count_pos_iff.mp
      rw [← h1, List.count_cons_self]; omega
    have := perm_of_counts a (b.erase x) (by
      rw [List.length_erase_of_mem hx]; simp only [List.length_cons] at hl; omega) fun y hy => by
        have h2 := hc y (by simp [hy])
        rw [List.count_erase, ← h2, List.count_cons]
        by_cases e : x = y
        · subst e; simp
        · have e' : ¬ y = x := fun h => e h.symm
          simp [e, e']
    exact (this.cons x).trans (List.perm_cons_erase hx).symm
end Go.Proofs.Sys

namespace Go.Proofs.Sys
open Go Go.Lib

def letter (r : Nat) : Bool := (97 ≤ r && r ≤ 122) || (65 ≤ r && r ≤ 90) || 128 ≤ r
def more (r : Nat) : Bool := letter r || (48 ≤ r && r ≤ 57) || r == 95 || r == 39
/-- Rune by rune, from a place on: may each stand where it does? -/
def okFrom (s : ByteArray) : Nat → Nat → Bool
  | 0, _ => true
  | n + 1, p => if p < s.size then (if p = 0 then letter (Utf8.decode s p).1 else more (Utf8.decode s p).1) && okFrom s n (p + (Utf8.decode s p).2) else true
theorem okFrom_end {s : ByteArray} {n p : Nat} (h : s.size ≤ p) : okFrom s n p = true := by
  cases n with
  | zero => rfl
  | succ n => unfold okFrom; rw [if_neg (by omega)]
theorem okFrom_fuel {s : ByteArray} : ∀ {n m p : Nat}, s.size - p ≤ n → s.size - p ≤ m → okFrom s n p = okFrom s m p
  | 0, m, p, h, _ => by rw [okFrom_end (by omega), okFrom_end (by omega)]
  | n + 1, 0, p, _, h => by rw [okFrom_end (by omega), okFrom_end (by omega)]
  | n + 1, m + 1, p, h1, h2 => by
    unfold okFrom
    split
    · have := width_pos s p
      rw [okFrom_fuel (n := n) (m := m) (by omega) (by omega)]
    · rfl
def okAll (s : ByteArray) (p : Nat) : Bool := okFrom s s.size p
theorem okAll_step {s : ByteArray} {p : Nat} (h : p < s.size) : okAll s p = ((if p = 0 then letter (Utf8.decode s p).1 else more (Utf8.decode s p).1) && okAll s (p + (Utf8.decode s p).2)) := by
  unfold okAll
  obtain ⟨n, hn⟩ : ∃ n, s.size = n + 1 := ⟨s.size - 1, by omega⟩
  have := width_pos s p
  rw [hn]
  conv => lhs; unfold okFrom
  rw [if_pos h, okFrom_fuel (n := n) (m := n + 1) (by omega) (by omega)]
theorem okAll_end {s : ByteArray} {p : Nat} (h : s.size ≤ p) : okAll s p = true := okFrom_end h

/-- What the runes of a row of bytes come to. -/
def built : Nat → List UInt8 → List UInt8
  | 0, _ => []
  | n + 1, l => if l = [] then [] else encodeRune (decodeL l).1 ++ built n (l.drop (decodeL l).2)
theorem built_len : ∀ (n : Nat) (l : List UInt8), l.length ≤ n → l.length ≤ (built n l).length ∧ (validD l = true → built n l = l) ∧ (validD l = false → l.length < (built n l).length)
  | 0, l, h => by
    have : l = [] := List.length_eq_zero_iff.mp (by omega)
    subst this
    exact ⟨by simp, fun _ => rfl, fun h => by rw [validD_nil] at h; cases h⟩
  | n + 1, l, h => by
    unfold built
    by_cases hl : l = []
    · subst hl
      rw [if_pos rfl]
      exact ⟨by simp, fun _ => rfl, fun h => by rw [validD_nil] at h; cases h⟩
    · rw [if_neg hl]
      have hpos : 0 < l.length := List.length_pos_iff.mpr hl
      have hw := decodeL_width l
      have hle := decodeL_le l hl
      obtain ⟨i1, i2, i3⟩ := built_len n (l.drop (decodeL l).2) (by rw [List.length_drop]; omega)
      rw [List.length_drop] at i1 i3
      by_cases hb : (decodeL l).1 = 65533 ∧ (decodeL l).2 = 1
      · have hv : validD l = false := by rw [validD_step l hl, if_pos hb]
        have h3 : (encodeRune ((decodeL l).1 : Int)).length = 3 := by rw [hb.1]; decide
        refine ⟨?_, fun (h : validD l = true) => (by rw [hv] at h; cases h), fun _ => ?_⟩
        · rw [List.length_append, h3]; omega
        · rw [List.length_append, h3]; omega
      · have hv : validD l = validD (l.drop (decodeL l).2) := by rw [validD_step l hl, if_neg hb]
        have he := encode_decode l hl hb
        have h3 : (encodeRune ((decodeL l).1 : Int)).length = (decodeL l).2 := by rw [he, List.length_take]; omega
        refine ⟨?_, fun h => ?_, fun h => ?_⟩
        · rw [List.length_append, h3]; omega
        · rw [he, i2 (by rw [← hv]; exact h), List.take_append_drop]
        · rw [List.length_append, h3]
          have := i3 (by rw [← hv]; exact h)
          omega
theorem built_valid {n : Nat} {l : List UInt8} (h : l.length ≤ n) : (built n l = l) ↔ validD l = true := by
  obtain ⟨_, h1, h2⟩ := built_len n l h
  constructor
  · intro he
    cases hv : validD l with
    | true => rfl
    | false => have := h2 hv; rw [he] at this; omega
  · exact h1
theorem bad_bytes (c : Nat) (hc : c = 65533) : (224 + c / 4096 = 239) ∧ (128 + c / 64 % 64 = 191) ∧ (128 + c % 64 = 189) := by omega
theorem enc_bad (c : Nat) (hv : Utf8.valid (c : Int) = false) : Utf8.encode (c : Int) = ⟨#[UInt8.ofNat 239, UInt8.ofNat 191, UInt8.ofNat 189]⟩ := by
  have key : ∀ x : Nat, x = 65533 → (if x < 128 then (⟨#[UInt8.ofNat x]⟩ : ByteArray) else if x < 2048 then ⟨#[UInt8.ofNat (192 + x / 64), UInt8.ofNat (128 + x % 64)]⟩
    else if x < 65536 then ⟨#[UInt8.ofNat (224 + x / 4096), UInt8.ofNat (128 + x / 64 % 64), UInt8.ofNat (128 + x % 64)]⟩
    else ⟨#[UInt8.ofNat (240 + x / 262144), UInt8.ofNat (128 + x / 4096 % 64), UInt8.ofNat (128 + x / 64 % 64), UInt8.ofNat (128 + x % 64)]⟩) = ⟨#[UInt8.ofNat 239, UInt8.ofNat 191, UInt8.ofNat 189]⟩ := by
    intro x hx
    obtain ⟨h1, h2, h3⟩ := bad_bytes x hx
    rw [if_neg (by omega), if_neg (by omega), if_pos (by omega), h1, h2, h3]
  unfold Utf8.encode
  rw [hv]
  exact key _ rfl
theorem enc_good (c : Nat) (hv : Utf8.valid (c : Int) = true) : Utf8.encode (c : Int) = if c < 128 then (⟨#[UInt8.ofNat c]⟩ : ByteArray) else if c < 2048 then ⟨#[UInt8.ofNat (192 + c / 64), UInt8.ofNat (128 + c % 64)]⟩
    else if c < 65536 then ⟨#[UInt8.ofNat (224 + c / 4096), UInt8.ofNat (128 + c / 64 % 64), UInt8.ofNat (128 + c % 64)]⟩
    else ⟨#[UInt8.ofNat (240 + c / 262144), UInt8.ofNat (128 + c / 4096 % 64), UInt8.ofNat (128 + c / 64 % 64), UInt8.ofNat (128 + c % 64)]⟩ := by
  unfold Utf8.encode
  rw [hv]
  rfl
theorem valid_iff (c : Nat) : Utf8.valid (c : Int) = true ↔ (c < 55296 ∨ (57344 ≤ c ∧ c ≤ 1114111)) := by
  simp only [Utf8.valid, Bool.or_eq_true, Bool.and_eq_true, decide_eq_true_eq]
  omega
theorem byte_cast (n : Nat) : ((n : Int).toNat.toUInt8) = UInt8.ofNat n := rfl
theorem encode_eq (c : Nat) : (Utf8.encode (c : Int)).data.toList = encodeRune (c : Int) := by
  by_cases hv : Utf8.valid (c : Int) = true
  · have h := (valid_iff c).mp hv
    rw [enc_good c hv]
    by_cases h1 : c < 128
    · rw [if_pos h1, encodeRune, encodeRuneZ_one (by omega) (by omega)]; rfl
    · rw [if_neg h1]
      by_cases h2 : c < 2048
      · rw [if_pos h2, encodeRune, encodeRuneZ_two (by omega) (by omega)]
        simp only [List.map_cons, List.map_nil]
        rw [show (192 : Int) + (c : Int) / 64 = ((192 + c / 64 : Nat) : Int) by omega, show (128 : Int) + (c : Int) % 64 = ((128 + c % 64 : Nat) : Int) by omega, byte_cast, byte_cast]
      · rw [if_neg h2]
        by_cases h3 : c < 65536
        · rw [if_pos h3, encodeRune, encodeRuneZ_three (by omega)]
          simp only [List.map_cons, List.map_nil]
          rw [show (224 : Int) + (c : Int) / 4096 = ((224 + c / 4096 : Nat) : Int) by omega, show (128 : Int) + (c : Int) / 64 % 64 = ((128 + c / 64 % 64 : Nat) : Int) by omega, show (128 : Int) + (c : Int) % 64 = ((128 + c % 64 : Nat) : Int) by omega, byte_cast, byte_cast, byte_cast]
        · rw [if_neg h3, encodeRune, encodeRuneZ_four (by omega) (by omega)]
          simp only [List.map_cons, List.map_nil]
          rw [show (240 : Int) + (c : Int) / 262144 = ((240 + c / 262144 : Nat) : Int) by omega, show (128 : Int) + (c : Int) / 4096 % 64 = ((128 + c / 4096 % 64 : Nat) : Int) by omega, show (128 : Int) + (c : Int) / 64 % 64 = ((128 + c / 64 % 64 : Nat) : Int) by omega, show (128 : Int) + (c : Int) % 64 = ((128 + c % 64 : Nat) : Int) by omega, byte_cast, byte_cast, byte_cast, byte_cast]
  · have h : ¬ _ := fun x => hv ((valid_iff c).mpr x)
    rw [enc_bad c (by simpa using hv), encodeRune, encodeRuneZ_bad (by omega)]
    rfl
/-- A text is a name. -/
def isName (s : ByteArray) : Bool := s.size != 0 && decide (s.size ≤ 32) && validD s.data.toList && okAll s 0
end Go.Proofs.Sys

namespace Go.Proofs.YtnlhnlmnlfmojaaDoor.Am
open Go Go.Proofs Sys
set_option linter.unusedVariables false
set_option linter.unusedSimpArgs false

def SpecPred (q : Nat → Bool) (D : Orc) (f : Nat) : Prop := ∀ (r : Nat) h (k : Kv) kp, k (.bool (q r)) h → D f [.int .i32 (r : Int)] h k kp
theorem letter_core {r : Nat} {h : H} {k : Kv} (hk : k (.bool (letter r)) h) :
    cond (decide ((97 : Int) ≤ r)) (cond (!(decide ((r : Int) ≤ (122 : Int)))) (cond (decide ((65 : Int) ≤ r)) (cond (!(decide ((r : Int) ≤ (90 : Int)))) (k (Value.bool (decide ((r : Int) ≥ (128 : Int)))) h) (k (Value.bool true) h)) (k (Value.bool (decide ((r : Int) ≥ (128 : Int)))) h)) (k (Value.bool true) h))
      (cond (decide ((65 : Int) ≤ r)) (cond (!(decide ((r : Int) ≤ (90 : Int)))) (k (Value.bool (decide ((r : Int) ≥ (128 : Int)))) h) (k (Value.bool true) h)) (k (Value.bool (decide ((r : Int) ≥ (128 : Int)))) h)) := by
  have yes : letter r = true → k (.bool true) h := fun e => by rw [e] at hk; exact hk
  have rest : letter r = decide ((r : Int) ≥ 128) → k (.bool (decide ((r : Int) ≥ 128))) h := fun e => by rw [e] at hk; exact hk
  have e128 : decide ((r : Int) ≥ 128) = decide (128 ≤ r) := by rw [decide_eq_decide]; omega
  simp only [cond_not, cond_dec]
  refine ⟨fun h1 => ⟨fun h2 => yes ?_, fun h2 => ⟨fun h3 => ⟨fun h4 => yes ?_, fun h4 => rest ?_⟩, fun h3 => rest ?_⟩⟩, fun h1 => ⟨fun h3 => ⟨fun h4 => yes ?_, fun h4 => rest ?_⟩, fun h3 => rest ?_⟩⟩
  all_goals
    try rw [e128]
    unfold letter
    rw [Bool.eq_iff_iff]
    simp only [Bool.or_eq_true, Bool.and_eq_true, decide_eq_true_eq, eq_self, iff_true]
    omega
theorem spec89 {D : Orc} (c : Cl89 D) : SpecPred letter D 89 := by
  intro r h k kp hk
  refine c _ _ _ _ ?_
  unfold F89
  rw [intK_int]
  exact letter_core hk
theorem spec92 {D : Orc} (c : Cl92 D) : SpecPred letter D 92 := by
  intro r h k kp hk
  refine c _ _ _ _ ?_
  unfold F92
  rw [intK_int]
  have := letter_core hk
  simp only [cond_not, cond_dec, ge_iff_le] at this ⊢
  exact this
theorem spec93 {D : Orc} (c : Cl93 D) (t : SpecPred letter D 92) : SpecPred more D 93 := by
  intro r h k kp hk
  refine c _ _ _ _ ?_
  unfold F93
  rw [intK_int]
  refine t _ _ _ _ ⟨_, rfl, ?_⟩
  have hm : more r = (letter r || (48 ≤ r && r ≤ 57) || r == 95 || r == 39) := rfl
  have yes : more r = true → k (.bool true) h := fun e => by rw [e] at hk; exact hk
  have e39 : ((r : Int) == 39) = (r == 39) := by rw [Bool.eq_iff_iff]; simp only [beq_iff_eq]; omega
  have rest : more r = (r == 39) → k (.bool ((r : Int) == 39)) h := fun e => by rw [e39, ← e]; exact hk
  have e95 : ((r : Int) == 95) = (r == 95) := by rw [Bool.eq_iff_iff]; simp only [beq_iff_eq]; omega
  cases hl : letter r with
  | true => exact yes (by rw [hm, hl]; simp)
  | false =>
    rw [hl] at hm
    simp only [Bool.not_false, cond_true, cond_not, cond_dec, e95]
    cases h9 : (r == 95) with
    | true =>
      rw [h9] at hm
      have : more r = true := by rw [hm]; simp
      exact ⟨fun _ => ⟨fun _ => yes this, fun _ => yes this⟩, fun _ => yes this⟩
    | false =>
      rw [h9] at hm
      refine ⟨fun h1 => ⟨fun h2 => yes ?_, fun h2 => rest ?_⟩, fun h1 => rest ?_⟩
      · rw [hm]; simp; omega
      · rw [hm]
        have : (decide (48 ≤ r) && decide (r ≤ 57)) = false := by simp; omega
        simp [this]
      · rw [hm]
        have : (decide (48 ≤ r) && decide (r ≤ 57)) = false := by simp; omega
        simp [this]

end Go.Proofs.YtnlhnlmnlfmojaaDoor.Am

namespace Go.Proofs.YtnlhnlmnlfmojaaDoor.Am
open Go Go.Proofs Sys Go.Lib
set_option linter.unusedVariables false
set_option linter.unusedSimpArgs false

theorem ex0 {a : Value} {l : List Value} {k : Value → Prop} : extractW (.tuple (a :: l).toArray) 0 k = k a := rfl
theorem ex1 {a b : Value} {l : List Value} {k : Value → Prop} : extractW (.tuple (a :: b :: l).toArray) 1 k = k b := rfl
theorem ex2 {a b c : Value} {l : List Value} {k : Value → Prop} : extractW (.tuple (a :: b :: c :: l).toArray) 2 k = k c := rfl
theorem next_rule {h : H} {b p : Nat} {s : ByteArray} {k : Value → H → Prop} (hb : h b = some (.sit s p)) (h1 : s.size ≤ p → k (.tuple #[.bool false]) h)
    (h2 : p < s.size → k (.tuple #[.bool true, .int .i64 (p : Nat), .int .i32 ((Utf8.decode s p).1 : Nat)]) (h.set b (.sit s (p + (Utf8.decode s p).2)))) : nextW h ⟨b, 0, none⟩ k := ⟨rfl, s, p, hb, h1, h2⟩
theorem more_core {r : Nat} (hl : letter r = false) {Φ : Bool → Prop} (hk : Φ (more r)) :
    cond (decide ((48 : Int) ≤ r)) (cond (!(decide ((r : Int) ≤ (57 : Int)))) (cond (!((r : Int) == (95 : Int))) (Φ ((r : Int) == (39 : Int))) (Φ true)) (Φ true)) (cond (!((r : Int) == (95 : Int))) (Φ ((r : Int) == (39 : Int))) (Φ true)) := by
  have hm : more r = (letter r || (48 ≤ r && r ≤ 57) || r == 95 || r == 39) := rfl
  have yes : more r = true → Φ true := fun e => by rw [e] at hk; exact hk
  have e39 : ((r : Int) == 39) = (r == 39) := by rw [Bool.eq_iff_iff]; simp only [beq_iff_eq]; omega
  have rest : more r = (r == 39) → Φ ((r : Int) == 39) := fun e => by rw [e39, ← e]; exact hk
  have e95 : ((r : Int) == 95) = (r == 95) := by rw [Bool.eq_iff_iff]; simp only [beq_iff_eq]; omega
  rw [hl] at hm
  simp only [cond_not, cond_dec, e95]
  cases h9 : (r == 95) with
  | true =>
    rw [h9] at hm
    have : more r = true := by rw [hm]; simp
    exact ⟨fun _ => ⟨fun _ => yes this, fun _ => yes this⟩, fun _ => yes this⟩
  | false =>
    rw [h9] at hm
    refine ⟨fun h1 => ⟨fun h2 => yes ?_, fun h2 => rest ?_⟩, fun h1 => rest ?_⟩
    · rw [hm]; simp; omega
    · rw [hm]
      have : (decide (48 ≤ r) && decide (r ≤ 57)) = false := by simp; omega
      simp [this]
    · rw [hm]
      have : (decide (48 ≤ r) && decide (r ≤ 57)) = false := by simp; omega
      simp [this]

theorem named_loop {D : Orc} (t : SpecPred letter D 89) {s : ByteArray} {h0 : H} {b : Nat} (h0b : h0 b = none) {K : Kl} {I : List Value → H → Prop} (hI : ∀ a0 h, round72_4 D I K a0 h → I [a0] h) :
    ∀ (n p : Nat) (h : H), s.size - p ≤ n → h b = some (.sit s p) → Ext h0 h → (∀ h', Ext h0 h' → okAll s p = true → K (.e 0) [] h') → (∀ h', Ext h0 h' → okAll s p = false → K .r [.bool false] h') →
      I [.pointer (some ⟨b, 0, none⟩)] h := by
  intro n
  induction n with
  | zero =>
    intro p h hn hb he hK1 hK2
    refine hI _ _ ?_
    unfold round72_4
    rw [ptrW_ptr]
    refine next_rule hb (fun _ => ?_) (fun hp => by omega)
    rw [show (#[Value.bool false] : Array Value) = [Value.bool false].toArray from rfl, ex0, boolW_bool, cond_false]
    exact hK1 _ he (okAll_end (by omega))
  | succ n ih =>
    intro p h hn hb he hK1 hK2
    refine hI _ _ ?_
    unfold round72_4
    rw [ptrW_ptr]
    refine next_rule hb (fun hp => ?_) (fun hp => ?_)
    · rw [show (#[Value.bool false] : Array Value) = [Value.bool false].toArray from rfl, ex0, boolW_bool, cond_false]
      exact hK1 _ he (okAll_end hp)
    · have hw := width_pos s p
      have step := okAll_step hp
      generalize Utf8.decode s p = rw at step hw ⊢
      obtain ⟨r, wd⟩ := rw
      dsimp only at step hw ⊢
      rw [show (#[Value.bool true, Value.int .i64 ((p : Nat) : Int), Value.int .i32 ((r : Nat) : Int)] : Array Value) = [Value.bool true, Value.int .i64 ((p : Nat) : Int), Value.int .i32 ((r : Nat) : Int)].toArray from rfl, ex0, boolW_bool, cond_true, ex1, ex2]
      have he' : Ext h0 (h.set b (.sit s (p + wd))) := he.set h0b
      have go : (if p = 0 then letter r else more r) = true → I [.pointer (some ⟨b, 0, none⟩)] (h.set b (.sit s (p + wd))) := fun hc => by
        rw [hc, Bool.true_and] at step
        exact ih (p + wd) _ (by omega) set_here he' (fun h' e hk => hK1 h' e (by rw [step]; exact hk)) (fun h' e hk => hK2 h' e (by rw [step]; exact hk))
      have stop : (if p = 0 then letter r else more r) = false → K .r [.bool false] (h.set b (.sit s (p + wd))) := fun hc => by
        rw [hc, Bool.false_and] at step
        exact hK2 _ he' step
      refine t _ _ _ _ ⟨_, rfl, ?_⟩
      cases hl : letter r with
      | true =>
        rw [cond_true]
        refine go ?_
        split
        · exact hl
        · unfold more; rw [hl]; simp
      | false =>
        rw [cond_false]
        simp only [intK_int]
        rw [cond_dec]
        refine ⟨fun hp0 => ?_, fun hp0 => ?_⟩
        · have hp1 : ¬ p = 0 := by omega
          rw [if_neg hp1] at go stop
          refine more_core hl (Φ := fun x => j72_4_6 D I K _ (.bool x) _) ?_
          unfold j72_4_6
          rw [boolW_bool]
          cases hm : more r with
          | true => exact go hm
          | false => exact stop hm
        · have hp1 : p = 0 := by omega
          rw [if_pos hp1] at stop
          unfold j72_4_6
          rw [boolW_bool]
          exact stop hl
def SpecValid (D : Orc) (f : Nat) (T : H → Prop) : Prop := ∀ (s : ByteArray) h (k : Kv) kp, s.size < 2 ^ 62 → T h → k (.bool (validD s.data.toList)) h → D f [.string s] h k kp
def SpecName (D : Orc) (f : Nat) (T : H → Prop) : Prop := ∀ (s : ByteArray) h (k : Kv) kp, s.size < 2 ^ 62 → T h → (∀ h', Ext h h' → k (.bool (isName s)) h') → D f [.string s] h k kp
theorem empty_iff (s : ByteArray) : (s.toList == (ByteArray.mk #[]).toList) = (s.size == 0) := by
  rw [Bool.eq_iff_iff, toList_eq, toList_eq]
  simp only [beq_iff_eq]
  constructor
  · intro h; rw [← bts_len, h]; rfl
  · intro h
    exact List.length_eq_zero_iff.mp (by rw [bts_len]; exact h)
theorem isName_big {s : ByteArray} (h : 32 < s.size) : isName s = false := by
  unfold isName
  have : decide (s.size ≤ 32) = false := by simp; omega
  rw [this]; simp
theorem isName_nil {s : ByteArray} (h : s.size = 0) : isName s = false := by
  unfold isName; rw [h]; simp
theorem isName_eq {s : ByteArray} (h0 : s.size ≠ 0) (h1 : s.size ≤ 32) : isName s = (validD s.data.toList && okAll s 0) := by
  unfold isName
  have a : (s.size != 0) = true := by simpa using h0
  have b : decide (s.size ≤ 32) = true := by simpa using h1
  rw [a, b]; simp
theorem spec72 {D : Orc} {T : H → Prop} (c : Cl72 D) (t : SpecPred letter D 89) (v : SpecValid D 88 T) : SpecName D 72 T := by
  intro s h k kp hs hT hk
  refine c _ _ _ _ ?_
  unfold F72
  rw [strW_string, empty_iff]
  have no : isName s = false → j72__2 D k kp (.string s) (.bool true) h := fun e => by
    unfold j72__2
    simp only [strW_string, boolW_bool, cond_true]
    have := hk h (Ext.refl h)
    rw [e] at this; exact this
  cases h0 : (s.size == 0) with
  | true => exact no (isName_nil (by simpa using h0))
  | false =>
    have h0' : s.size ≠ 0 := by simpa using h0
    rw [Bool.not_false, cond_true, cond_not, cond_dec]
    refine ⟨fun h1 => no (isName_big (by omega)), fun h1 => ?_⟩
    have hn := isName_eq h0' (by omega)
    refine v _ _ _ _ hs hT ⟨_, rfl, ?_⟩
    cases hv : validD s.data.toList with
    | false => exact no (by rw [hn, hv]; rfl)
    | true =>
      rw [hv, Bool.true_and] at hn
      unfold j72__2
      simp only [strW_string, boolW_bool, Bool.not_true, cond_false]
      intro b hb
      intro I hI
      refine named_loop t hb hI s.size 0 _ (by omega) set_here (Ext.new hb) (fun h' e hok => ?_) (fun h' e hok => ?_)
      · rw [xs_e]
        show cond (Nat.beq 0 0) _ _
        have := hk h' e
        rw [hn, hok] at this
        exact this
      · rw [xs_r, nth0, boolW_bool]
        have := hk h' e
        rw [hn, hok] at this
        exact this
end Go.Proofs.YtnlhnlmnlfmojaaDoor.Am

namespace Go.Proofs.YtnlhnlmnlfmojaaDoor.Am
open Go Go.Proofs Sys Go.Lib
set_option linter.unusedVariables false
set_option linter.unusedSimpArgs false

theorem bts_data (s : ByteArray) : bts s = s.data.toList := rfl
theorem encode_size (c : Nat) : (Utf8.encode (c : Int)).size ≤ 4 := by
  rw [← bts_len, bts_data, encode_eq]
  unfold encodeRune
  rw [List.length_map]
  exact (encodeRuneZ_length _).2
theorem good_loop {D : Orc} {s : ByteArray} {h0 : H} {b : Nat} (h0b : h0 b = none) (hs : s.size ≤ 2 ^ 20) {K : Kl} {I : List Value → H → Prop} (hI : ∀ a0 a1 a2 h, round91_3 D I K a0 a1 a2 h → I [a0, a1, a2] h) :
    ∀ (n p : Nat) (acc : ByteArray) (h : H), s.size - p ≤ n → p ≤ s.size + 4 → acc.size ≤ 4 * p → h b = some (.sit s p) → Ext h0 h → (∀ h' acc', Ext h0 h' → bts acc' = bts acc ++ built n ((bts s).drop p) → K (.e 0) [.string s, .string acc'] h') →
      I [.string s, .string acc, .pointer (some ⟨b, 0, none⟩)] h := by
  intro n
  induction n with
  | zero =>
    intro p acc h hn hp4 ha hb he hK
    refine hI _ _ _ _ ?_
    unfold round91_3
    rw [strW_string, strW_string, ptrW_ptr]
    refine next_rule hb (fun _ => ?_) (fun hp => by omega)
    rw [show (#[Value.bool false] : Array Value) = [Value.bool false].toArray from rfl, ex0, boolW_bool, cond_false]
    exact hK _ _ he (by simp [built])
  | succ n ih =>
    intro p acc h hn hp4 ha hb he hK
    refine hI _ _ _ _ ?_
    unfold round91_3
    rw [strW_string, strW_string, ptrW_ptr]
    refine next_rule hb (fun hp => ?_) (fun hp => ?_)
    · rw [show (#[Value.bool false] : Array Value) = [Value.bool false].toArray from rfl, ex0, boolW_bool, cond_false]
      refine hK _ _ he ?_
      have : (bts s).drop p = [] := List.drop_eq_nil_of_le (by rw [bts_len]; omega)
      rw [this]; simp [built]
    · have hw := width_pos s p
      have hne : (bts s).drop p ≠ [] := by
        intro h0
        have := congrArg List.length h0
        rw [List.length_drop, bts_len] at this
        simp at this; omega
      have hL : decodeL ((bts s).drop p) = Utf8.decode s p := decodeL_drop s p
      have hle := decodeL_le _ hne
      rw [hL, List.length_drop, bts_len] at hle
      have hbt : built (n + 1) ((bts s).drop p) = encodeRune ((Utf8.decode s p).1 : Int) ++ built n ((bts s).drop (p + (Utf8.decode s p).2)) := by
        conv => lhs; unfold built
        rw [if_neg hne, hL, List.drop_drop]
      generalize Utf8.decode s p = rw at hw hle hbt ⊢
      obtain ⟨r, wd⟩ := rw
      dsimp only at hw hle hbt ⊢
      rw [show (#[Value.bool true, Value.int .i64 ((p : Nat) : Int), Value.int .i32 ((r : Nat) : Int)] : Array Value) = [Value.bool true, Value.int .i64 ((p : Nat) : Int), Value.int .i32 ((r : Nat) : Int)].toArray from rfl, ex0, boolW_bool, cond_true, ex2, intW_int]
      have h4 := encode_size r
      refine ⟨by omega, ih (p + wd) _ _ (by omega) (by omega) (by rw [ByteArray.size_append]; omega) set_here (he.set h0b) fun h' acc' e hacc => hK h' acc' e ?_⟩
      rw [hacc, bts_append, hbt, List.append_assoc, bts_data (Utf8.encode _), encode_eq]
theorem spec91 {D : Orc} (c : Cl91 D) {s : ByteArray} {h : H} {k : Kv} {kp : Kp} (hs : s.size ≤ 2 ^ 20) (hk : ∀ h', Ext h h' → k (.bool (validD s.data.toList)) h') : D 91 [.string s] h k kp := by
  refine c _ _ _ _ ?_
  unfold F91
  rw [strW_string]
  intro b hb I hI
  refine good_loop hb hs hI s.size 0 _ _ (by omega) (by omega) (by decide) set_here (Ext.new hb) fun h' acc e hacc => ?_
  rw [xs_e]
  show cond (Nat.beq 0 0) _ _
  simp only [nth0, nth1, strW_string]
  show k _ _
  have : (acc.toList == s.toList) = validD s.data.toList := by
    rw [toList_eq, toList_eq, hacc, Bool.eq_iff_iff, beq_iff_eq]
    have e0 : bts (ByteArray.mk #[]) ++ built s.size ((bts s).drop 0) = built s.size (bts s) := by rw [List.drop_zero]; rfl
    rw [e0]
    exact built_valid (by rw [bts_len]; exact Nat.le_refl _)
  rw [this]
  exact hk _ e
theorem name_loop {D : Orc} (t : SpecPred letter D 92) (m : SpecPred more D 93) {s : ByteArray} {h0 : H} {b : Nat} (h0b : h0 b = none) {K : Kl} {I : List Value → H → Prop} (hI : ∀ a0 h, round79_4 D I K a0 h → I [a0] h) :
    ∀ (n p : Nat) (h : H), s.size - p ≤ n → h b = some (.sit s p) → Ext h0 h → (∀ h', Ext h0 h' → okAll s p = true → K (.e 0) [] h') → (∀ h', Ext h0 h' → okAll s p = false → K .r [.bool false] h') →
      I [.pointer (some ⟨b, 0, none⟩)] h := by
  intro n
  induction n with
  | zero =>
    intro p h hn hb he hK1 hK2
    refine hI _ _ ?_
    unfold round79_4
    rw [ptrW_ptr]
    refine next_rule hb (fun _ => ?_) (fun hp => by omega)
    rw [show (#[Value.bool false] : Array Value) = [Value.bool false].toArray from rfl, ex0, boolW_bool, cond_false]
    exact hK1 _ he (okAll_end (by omega))
  | succ n ih =>
    intro p h hn hb he hK1 hK2
    refine hI _ _ ?_
    unfold round79_4
    rw [ptrW_ptr]
    refine next_rule hb (fun hp => ?_) (fun hp => ?_)
    · rw [show (#[Value.bool false] : Array Value) = [Value.bool false].toArray from rfl, ex0, boolW_bool, cond_false]
      exact hK1 _ he (okAll_end hp)
    · have hw := width_pos s p
      have step := okAll_step hp
      generalize Utf8.decode s p = rw at step hw ⊢
      obtain ⟨r, wd⟩ := rw
      dsimp only at step hw ⊢
      rw [show (#[Value.bool true, Value.int .i64 ((p : Nat) : Int), Value.int .i32 ((r : Nat) : Int)] : Array Value) = [Value.bool true, Value.int .i64 ((p : Nat) : Int), Value.int .i32 ((r : Nat) : Int)].toArray from rfl, ex0, boolW_bool, cond_true, ex1, ex2]
      have he' : Ext h0 (h.set b (.sit s (p + wd))) := he.set h0b
      have go : (if p = 0 then letter r else more r) = true → I [.pointer (some ⟨b, 0, none⟩)] (h.set b (.sit s (p + wd))) := fun hc => by
        rw [hc, Bool.true_and] at step
        exact ih (p + wd) _ (by omega) set_here he' (fun h' e hk => hK1 h' e (by rw [step]; exact hk)) (fun h' e hk => hK2 h' e (by rw [step]; exact hk))
      have stop : (if p = 0 then letter r else more r) = false → K .r [.bool false] (h.set b (.sit s (p + wd))) := fun hc => by
        rw [hc, Bool.false_and] at step
        exact hK2 _ he' step
      have fin : ∀ x : Bool, x = (if p = 0 then letter r else more r) → j79_4_7 D I K (.pointer (some ⟨b, 0, none⟩)) (.bool (!x)) (h.set b (.sit s (p + wd))) := fun x hx => by
        unfold j79_4_7
        rw [boolW_bool]
        cases x with
        | true => exact go hx.symm
        | false => exact stop hx.symm
      rw [intK_int, cond_eq]
      refine ⟨fun hp0 => ?_, fun hp0 => ?_⟩
      · have hp1 : p = 0 := by omega
        refine t _ _ _ _ ⟨_, rfl, ?_⟩
        cases hl : letter r with
        | true =>
          rw [Bool.not_true, Bool.not_false, cond_true]
          refine m _ _ _ _ ⟨_, rfl, fin _ ?_⟩
          rw [if_pos hp1, hl]; unfold more; rw [hl]; simp
        | false =>
          rw [Bool.not_false, Bool.not_true, cond_false]
          exact fin false (by rw [if_pos hp1, hl])
      · have hp1 : ¬ p = 0 := by omega
        refine m _ _ _ _ ⟨_, rfl, fin _ ?_⟩
        rw [if_neg hp1]
theorem spec79 {D : Orc} {T : H → Prop} (c : Cl79 D) (c91 : Cl91 D) (t : SpecPred letter D 92) (m : SpecPred more D 93) : SpecName D 79 T := by
  intro s h k kp hs hT hk
  refine c _ _ _ _ ?_
  unfold F79
  rw [strW_string, empty_iff]
  have no : ∀ h', Ext h h' → isName s = false → j79__2 D k kp (.string s) (.bool true) h' := fun h' e0 e => by
    unfold j79__2
    simp only [strW_string, boolW_bool, cond_true]
    have := hk h' e0
    rw [e] at this; exact this
  cases h0 : (s.size == 0) with
  | true => exact no _ (Ext.refl h) (isName_nil (by simpa using h0))
  | false =>
    have h0' : s.size ≠ 0 := by simpa using h0
    rw [Bool.not_false, cond_true, cond_not, cond_dec]
    refine ⟨fun h1 => no _ (Ext.refl h) (isName_big (by omega)), fun h1 => ?_⟩
    have hn := isName_eq h0' (by omega)
    refine spec91 c91 (by omega) fun h1 e1 => ⟨_, rfl, ?_⟩
    cases hv : validD s.data.toList with
    | false => exact no _ e1 (by rw [hn, hv]; rfl)
    | true =>
      rw [hv, Bool.true_and] at hn
      unfold j79__2
      simp only [strW_string, boolW_bool, Bool.not_true, cond_false]
      intro b hb
      intro I hI
      refine name_loop t m hb hI s.size 0 _ (by omega) set_here (Ext.new hb) (fun h' e hok => ?_) (fun h' e hok => ?_)
      · rw [xs_e]
        show cond (Nat.beq 0 0) _ _
        have := hk h' (e1.trans e)
        rw [hn, hok] at this
        exact this
      · rw [xs_r, nth0, boolW_bool]
        have := hk h' (e1.trans e)
        rw [hn, hok] at this
        exact this
/-- A marked name. -/
def isMark (s : ByteArray) : Bool := decide (0 < s.size) && (((s.get! (s.size - 1)).toNat : Int) == 35) && isName (s.extract 0 (s.size - 1))
theorem spec59 {D : Orc} {T : H → Prop} (c : Cl59 D) (n79 : SpecName D 79 T) {s : ByteArray} {h : H} {k : Kv} {kp : Kp} (hs : s.size < 2 ^ 62) (hT : T h) (hk : ∀ h', Ext h h' → k (.bool (isMark s)) h') : D 59 [.string s] h k kp := by
  refine c _ _ _ _ ?_
  unfold F59
  rw [strW_string, cond_dec]
  have no : isMark s = false → k (.bool false) h := fun e => by have := hk h (Ext.refl h); rw [e] at this; exact this
  refine ⟨fun h1 => ?_, fun h1 => no ?_⟩
  · rw [i64_id (by omega) (by omega)]
    refine ⟨by omega, by omega, ?_⟩
    have e1 : ((s.size : Int) - 1).toNat = s.size - 1 := by omega
    rw [e1]
    show cond _ _ _
    have hpos : decide (0 < s.size) = true := decide_eq_true (by omega)
    cases h35 : (((s.get! (s.size - 1)).toNat : Int) == 35) with
    | false =>
      rw [cond_false]
      refine no ?_
      unfold isMark; rw [h35]; simp
    | true =>
      rw [cond_true]
      refine ⟨by simp, by show (0 : Int) ≤ (s.size : Int) - 1; omega, by show (s.size : Int) - 1 ≤ _; omega, ?_⟩
      have e2 : s.extract (Int.toNat (Option.getD none 0)) (Int.toNat (Option.getD (some ((s.size : Int) - 1)) s.size)) = s.extract 0 (s.size - 1) := by
        show s.extract 0 ((s.size : Int) - 1).toNat = _
        rw [e1]
      rw [e2]
      refine n79 _ _ _ _ ?_ hT fun h' e => ⟨_, rfl, ?_⟩
      · have h2 : (s.extract 0 (s.size - 1)).size ≤ s.size := by
          rw [← bts_len, bts_extract, List.drop_zero, List.length_take, bts_len]; omega
        omega
      · have := hk h' e
        unfold isMark at this
        rw [hpos, h35, Bool.true_and, Bool.true_and] at this
        exact this
  · unfold isMark
    have : decide (0 < s.size) = false := decide_eq_false (by omega)
    rw [this]; simp
end Go.Proofs.YtnlhnlmnlfmojaaDoor.Am

namespace Go.Proofs.YtnlhnlmnlfmojaaDoor.Am
open Go Go.Proofs Sys Go.Lib
set_option linter.unusedVariables false
set_option linter.unusedSimpArgs false
set_option maxRecDepth 100000

abbrev Sy := ByteArray × Int
def cellsOf (x : Sy) : List Value := [.string x.1, .int .i64 x.2]
def sgRow (sig : List Sy) : List (List Value) := sig.map cellsOf
theorem sgRow_len (sig : List Sy) : (sgRow sig).length = sig.length := by simp [sgRow]
theorem sgRow_at {sig : List Sy} {i : Nat} {v : List Value} (h : (sgRow sig)[i]? = some v) : ∃ x, sig[i]? = some x ∧ v = cellsOf x := by
  simp only [sgRow, List.getElem?_map, Option.map_eq_some_iff] at h
  obtain ⟨x, hx, rfl⟩ := h
  exact ⟨x, hx, rfl⟩
theorem sgRow_take (sig : List Sy) (n : Nat) : (sgRow sig).take n = sgRow (sig.take n) := by simp [sgRow, List.map_take]
theorem rd_cell {h : H} {b i : Nat} {l : List Value} {v : Value} (hb : h b = some (.cells l)) (hi : l[i]? = some v) : rd h (Addr.add ⟨b, 0, none⟩ i) = some v := by
  rw [add_at, Nat.zero_add]
  simp only [rd, hb, rowOf, Option.bind_some]
  exact hi
/-- A new place of two cells, laid at once. -/
theorem two_rule {h : H} {z1 z2 u v : Value} (hu : one u = true) (hv : one v = true) {T : Prop} (hT : T) {K : Value → H → Prop} (hK : ∀ b h', h b = none → h' b = some (.cells [u, v]) → Ext h h' → K (.pointer (some ⟨b, 0, none⟩)) h') :
    newW h [z1, z2] (fun p h9 => ptrW p (fun ad => T ∧ List.all [u, v] one = true ∧ ∃ h11, wr h9 ad [u, v] = some h11 ∧ K p h11)) := by
  intro b hb
  rw [ptrW_ptr]
  refine ⟨hT, by simp [hu, hv], h.set b (.cells [u, v]), ?_, hK b _ hb set_here (Ext.new hb)⟩
  simp only [wr, set_here]
  rw [if_pos (by simp)]
  simp [splice, set_twice]
theorem exB {φ : Value → Prop} : exR Tryd.prog (resTypes Tryd.prog 4) φ = ∃ x : Bool, φ (.bool x) := by kernel_rfl
theorem callB {D : Orc} {g : Nat} {caps : Array Value} {args : List Value} {h : H} {k : Kv} {kp : Kp} (hb : hasBody Tryd.prog g = true) (hk : D g (args ++ caps.toList) h (fun v h' => ∃ b : Bool, v = .bool b ∧ k (.bool b) h') kp) :
    callV Tryd.prog D 4 (.func (.func g) #[] caps) args h k kp := by
  unfold callV
  dsimp only
  unfold callW
  rw [hb]
  dsimp only
  simp only [exB, List.nil_append]
  exact hk
/-- A function value that tells whether something holds of a symbol. -/
def FnB (D : Orc) (h : H) (fv : Value) (q : Sy → Bool) (sig : List Sy) : Prop := ∀ x ∈ sig, ∀ h' (k : Kv) kp, Ext h h' → (∀ h'', Ext h' h'' → k (.bool (q x)) h'') → callV Tryd.prog D 4 fv [.agg #[.string x.1, .int .i64 x.2]] h' k kp
theorem FnB.of {D : Orc} {h : H} {g : Nat} {caps : Array Value} {q : Sy → Bool} {sig : List Sy} (hb : hasBody Tryd.prog g = true) (hg : ∀ x ∈ sig, ∀ h' (k : Kv) kp, Ext h h' → (∀ h'', Ext h' h'' → k (.bool (q x)) h'') → D g ([.agg #[.string x.1, .int .i64 x.2]] ++ caps.toList) h' k kp) : FnB D h (.func (.func g) #[] caps) q sig := fun x hx h' k kp e hk =>
  callB hb (hg x hx _ _ _ e fun h'' e' => ⟨_, rfl, hk _ e'⟩)
theorem idx_loop {D : Orc} {s fv : Value} {sig : List Sy} {q : Sy → Bool} {h0 : H} (r : RowK 2 h0 s (sgRow sig)) (hs : sig.length < 2 ^ 62) (hf : FnB D h0 fv q sig) {K : Kl} {I : List Value → H → Prop}
    (hI : ∀ a0 a1 a2 a3 h, round77_2 D I K a0 a1 a2 a3 h → I [a0, a1, a2, a3] h) :
    ∀ (n i : Nat) (h : H), sig.length - i ≤ n → i ≤ sig.length → Ext h0 h → (∀ j h', Ext h0 h' → (sig.drop i).any q = true → K .r [.int .i64 ((j : Nat) : Int)] h') → (∀ h', Ext h0 h' → (sig.drop i).any q = false → K (.e 0) [] h') →
      I [s, fv, .int .i64 ((sig.length : Nat) : Int), .int .i64 ((i : Nat) : Int)] h := by
  intro n
  induction n with
  | zero =>
    intro i h hn hi he hK1 hK2
    refine hI _ _ _ _ _ ?_
    unfold round77_2
    rw [intK_int, intK_int, cond_dec]
    refine ⟨fun hlt => by omega, fun _ => hK2 _ he ?_⟩
    rw [List.drop_eq_nil_of_le (by omega)]; rfl
  | succ n ih =>
    intro i h hn hi he hK1 hK2
    refine hI _ _ _ _ _ ?_
    unfold round77_2
    rw [intK_int, intK_int, cond_dec]
    refine ⟨fun hlt => ?_, fun hge => hK2 _ he ?_⟩
    · refine (r.ext he).at_ (by omega) (by rw [sgRow_len]; omega) fun ad v hv hrd _ => ?_
      rw [Int.toNat_natCast] at hv
      obtain ⟨x, hx, rfl⟩ := sgRow_at hv
      refine ⟨_, _, hrd, ?_⟩
      have hd : sig.drop i = x :: sig.drop (i + 1) := by
        obtain ⟨hlt, rfl⟩ := List.getElem?_eq_some_iff.mp hx
        exact List.drop_eq_getElem_cons hlt
      refine hf x (List.mem_of_getElem? hx) _ _ _ he fun h'' e => ?_
      rw [boolW_bool]
      have he'' := he.trans e
      cases hq : q x with
      | true => exact hK1 i _ he'' (by rw [hd, List.any_cons, hq]; rfl)
      | false =>
        rw [cond_false, i64_id (by omega) (by omega)]
        refine ih (i + 1) _ (by omega) (by omega) he'' (fun j h' e' ha => hK1 j h' e' ?_) (fun h' e' ha => hK2 h' e' ?_)
        · rw [hd, List.any_cons, hq, ha]; rfl
        · rw [hd, List.any_cons, hq, ha]; rfl
    · rw [List.drop_eq_nil_of_le (by omega)]; rfl
def SpecAny (D : Orc) (f : Nat) : Prop := ∀ s fv (sig : List Sy) (q : Sy → Bool) h (k : Kv) kp, RowK 2 h s (sgRow sig) → sig.length < 2 ^ 62 → FnB D h fv q sig → (∀ h', Ext h h' → k (.bool (sig.any q)) h') → D f [s, fv] h k kp
theorem spec54 {D : Orc} (c : Cl54 D) (c77 : Cl77 D) : SpecAny D 54 := by
  intro s fv sig q h k kp r hs hf hk
  refine c _ _ _ _ _ ?_
  unfold F54
  refine c77 _ _ _ _ _ ?_
  unfold F77
  rw [r.len, sgRow_len]
  intro I hI
  refine idx_loop r hs hf hI sig.length 0 h (by omega) (by omega) (Ext.refl h) (fun j h' e ha => ?_) (fun h' e ha => ?_)
  · rw [xs_r, nth0, intK_int]
    refine ⟨_, rfl, ?_⟩
    have := hk h' e
    rw [List.drop_zero] at ha
    rw [ha] at this
    have hd : decide (((j : Nat) : Int) ≥ 0) = true := by simp
    rw [hd]; exact this
  · rw [xs_e]
    show cond (Nat.beq 0 0) _ _
    refine ⟨_, rfl, ?_⟩
    have := hk h' e
    rw [List.drop_zero] at ha
    rw [ha] at this
    exact this
/-- The text ends in a mark. -/
def ends35 (s : ByteArray) : Bool := decide (0 < s.size) && (((s.get! (s.size - 1)).toNat : Int) == 35)
theorem spec46 {D : Orc} (c : Cl46 D) (c74 : Cl74 D) {s : ByteArray} {h : H} {k : Kv} {kp : Kp} (hs : s.size < 2 ^ 62) (hk : k (.bool (ends35 s)) h) : D 46 [.string s, .string (ByteArray.mk #[35])] h k kp := by
  refine c _ _ _ _ _ ?_
  unfold F46
  rw [strW_string, strW_string]
  refine c74 _ _ _ _ _ ?_
  unfold F74
  rw [strW_string, strW_string, cond_dec]
  have h1 : ((ByteArray.mk #[35]).size : Int) = 1 := rfl
  rw [h1]
  refine ⟨fun hge => ?_, fun hlt => ⟨_, rfl, ?_⟩⟩
  · rw [i64_id (by omega) (by omega)]
    refine strTail_rule (by omega) (by omega) fun t ht => ⟨_, rfl, ?_⟩
    have e1 : ((s.size : Int) - 1).toNat = s.size - 1 := by omega
    rw [e1] at ht
    have hg := get!_eq s (s.size - 1) (by omega)
    have hl : s.size - 1 < (bts s).length := by rw [bts_len]; omega
    have hx : (bts s)[s.size - 1] = s.get! (s.size - 1) := by rw [List.getElem?_eq_getElem hl] at hg; exact Option.some.inj hg
    have e2 : (bts s).drop (s.size - 1) = [s.get! (s.size - 1)] := by
      rw [List.drop_eq_getElem_cons hl, hx, List.drop_eq_nil_of_le (by rw [bts_len]; omega)]
    have : (t.toList == (ByteArray.mk #[35]).toList) = ends35 s := by
      rw [toList_eq, toList_eq, ht, e2]
      have e3 : bts (ByteArray.mk #[35]) = [35] := rfl
      rw [e3]
      unfold ends35
      have hp : decide (0 < s.size) = true := decide_eq_true (by omega)
      rw [hp, Bool.true_and, Bool.eq_iff_iff]
      simp only [beq_iff_eq, List.cons.injEq, and_true]
      have : ((35 : UInt8).toNat : Int) = 35 := rfl
      rw [← this, Int.natCast_inj, UInt8.toNat_inj]
    rw [this]; exact hk
  · have : ends35 s = false := by
      unfold ends35
      have hp : decide (0 < s.size) = false := decide_eq_false (by omega)
      rw [hp]; rfl
    rw [this] at hk; exact hk
theorem fn55 {D : Orc} (c : Cl55 D) (c46 : Cl46 D) (c74 : Cl74 D) {h : H} {sig : List Sy} (hs : ∀ x ∈ sig, x.1.size < 2 ^ 62) : FnB D h (.func (.func 55) #[] #[]) (fun x => ends35 x.1) sig := by
  refine FnB.of (by kernel_rfl) fun x hx h' k kp e hk => ?_
  refine c _ _ _ _ ?_
  unfold F55
  rw [aggW_agg]
  intro b hb
  rw [ptrW_ptr]
  refine ⟨x.1, rd_cell (i := 0) set_here rfl, spec46 c46 c74 (hs x hx) ⟨_, rfl, hk _ (Ext.new hb)⟩⟩
theorem fn73 {D : Orc} (c : Cl73 D) {h : H} {sig : List Sy} {b : Nat} {n : ByteArray} {a : Value} (hb : h b = some (.cells [.string n, a])) : FnB D h (.func (.func 73) #[] #[.pointer (some ⟨b, 0, none⟩)]) (fun x => x.1.toList == n.toList) sig := by
  refine FnB.of (by kernel_rfl) fun x hx h' k kp e hk => ?_
  refine c _ _ _ _ _ ?_
  unfold F73
  rw [aggW_agg]
  intro b' hb'
  rw [ptrW_ptr]
  refine ⟨x.1, rd_cell (i := 0) set_here rfl, ?_⟩
  rw [ptrW_ptr]
  refine ⟨n, rd_cell (i := 0) (l := [.string n, a]) ?_ rfl, hk _ (Ext.new hb')⟩
  have hne : b ≠ b' := fun x => by rw [← x, e b _ hb] at hb'; cases hb'
  rw [set_away hne]
  exact e b _ hb
end Go.Proofs.YtnlhnlmnlfmojaaDoor.Am

namespace Go.Proofs.YtnlhnlmnlfmojaaDoor.Am
open Go Go.Proofs Sys Go.Lib
set_option linter.unusedVariables false
set_option linter.unusedSimpArgs false
set_option maxRecDepth 100000

def named2 (s : ByteArray) : Bool := isName s || isMark s
def sigAt (pre : List Sy) (x : Sy) : Int := if named2 x.1 = false then 34 else if x.2 < 0 ∨ 8 < x.2 then 35 else if pre.any (fun y => y.1.toList == x.1.toList) then 36 else 0
def sigL : List Sy → List Sy → Int
  | _, [] => 0
  | pre, x :: r => if sigAt pre x = 0 then sigL (pre ++ [x]) r else sigAt pre x
/-- What is wrong with a signature. -/
def chkSig (sig : List Sy) : Int := if 128 < sig.length then 37 else sigL [] sig
structure Sr (h : H) (s : Value) (sig : List Sy) : Prop where
  row : RowK 2 h s (sgRow sig)
  len : sig.length < 2 ^ 40
  names : ∀ x ∈ sig, x.1.size < 2 ^ 62
theorem Sr.ext {h h' : H} {s : Value} {sig : List Sy} (r : Sr h s sig) (e : Ext h h') : Sr h' s sig := ⟨r.row.ext e, r.len, r.names⟩
def Stays (T : H → Prop) : Prop := ∀ h h', Ext h h' → T h → T h'
def SpecSig (D : Orc) (f : Nat) (T : H → Prop) : Prop := ∀ s sig h (k : Kv) kp, Sr h s sig → T h → (∀ h', Ext h h' → k (.int .i64 (chkSig sig)) h') → D f [s] h k kp
theorem split_at {α : Type} {l : List α} {i : Nat} {x : α} (h : l[i]? = some x) : l = l.take i ++ x :: l.drop (i + 1) ∧ l.take (i + 1) = l.take i ++ [x] ∧ l.drop i = x :: l.drop (i + 1) := by
  obtain ⟨hlt, rfl⟩ := List.getElem?_eq_some_iff.mp h
  have h1 : l.drop i = l[i] :: l.drop (i + 1) := List.drop_eq_getElem_cons hlt
  refine ⟨by rw [← h1, List.take_append_drop], by rw [List.take_add_one, h]; rfl, h1⟩
section
variable {D : Orc} {T : H → Prop}
/-- The end of a round: the name was told of. -/
theorem sig_tail (hT : Stays T) (a54 : SpecAny D 54) (c73 : Cl73 D) {s : Value} {sig : List Sy} {h0 : H} (r : Sr h0 s sig) {K : Kl} {I : List Value → H → Prop} {i : Nat} {x : Sy} (hx : sig[i]? = some x)
    {b : Nat} {h : H} (he : Ext h0 h) (hb : h b = some (.cells (cellsOf x))) {bad : Bool} (hbad : bad = !named2 x.1)
    (hgo : ∀ h', Ext h0 h' → sigAt (sig.take i) x = 0 → I [s, s, .int .i64 ((sig.length : Nat) : Int), .int .i64 (((i + 1 : Nat)) : Int)] h') (hstop : ∀ h', Ext h0 h' → sigAt (sig.take i) x ≠ 0 → K .r [.int .i64 (sigAt (sig.take i) x)] h') :
    j44_4_8 D I K s (.int .i64 (i : Int)) (.pointer (some ⟨b, 0, none⟩)) s (.int .i64 ((sig.length : Nat) : Int)) (.int .i64 (i : Int)) (.bool bad) h := by
  have hlt := (List.getElem?_eq_some_iff.mp hx).1
  have hl := r.len
  unfold j44_4_8
  simp only [intK_int, boolW_bool]
  subst hbad
  have r1 : rd h (Addr.add ⟨b, 0, none⟩ 1) = some (.int .i64 x.2) := rd_cell (i := 1) hb rfl
  cases hn : named2 x.1 with
  | false =>
    have e : sigAt (sig.take i) x = 34 := by unfold sigAt; rw [if_pos hn]
    have := hstop h he (by rw [e]; decide)
    rw [e] at this
    exact this
  | true =>
    rw [Bool.not_true, cond_false, ptrW_ptr]
    have ten : ∀ t : Bool, t = decide (x.2 < 0 ∨ 8 < x.2) → j44_4_10 D I K s (.int .i64 (i : Int)) (.pointer (some ⟨b, 0, none⟩)) s (.int .i64 ((sig.length : Nat) : Int)) (.int .i64 (i : Int)) (.bool t) h := by
      intro t ht
      unfold j44_4_10
      simp only [intK_int, boolW_bool]
      by_cases har : x.2 < 0 ∨ 8 < x.2
      · rw [decide_eq_true har] at ht
        subst ht
        have e : sigAt (sig.take i) x = 35 := by unfold sigAt; rw [if_neg (by rw [hn]; simp), if_pos har]
        have := hstop h he (by rw [e]; decide)
        rw [e] at this
        exact this
      · rw [decide_eq_false har] at ht
        subst ht
        rw [cond_false]
        have e : sigAt (sig.take i) x = if (sig.take i).any (fun y => y.1.toList == x.1.toList) then 36 else 0 := by unfold sigAt; rw [if_neg (by rw [hn]; simp), if_neg har]
        refine (r.ext he).row.cut (i := 0) (j := i) rfl rfl (by omega) (by rw [sgRow_len]; omega) fun s' rs' _ => ?_
        rw [List.drop_zero, sgRow_take] at rs'
        refine a54 _ _ _ _ _ _ _ rs' (by rw [List.length_take]; omega) (fn73 c73 (n := x.1) (a := .int .i64 x.2) hb) fun h' e' => ⟨_, rfl, ?_⟩
        cases ha : (sig.take i).any (fun y => y.1.toList == x.1.toList) with
        | true =>
          rw [ha, if_pos rfl] at e
          have := hstop h' (he.trans e') (by rw [e]; decide)
          rw [e] at this
          exact this
        | false =>
          rw [ha, if_neg (by simp)] at e
          rw [cond_false, i64_id (by omega) (by omega)]
          have := hgo h' (he.trans e') e
          exact this
    refine ⟨x.2, r1, ?_⟩
    rw [cond_not, cond_dec]
    refine ⟨fun hneg => ten true (by rw [decide_eq_true (.inl hneg)]), fun hpos => ?_⟩
    rw [ptrW_ptr]
    refine ⟨x.2, r1, ten _ ?_⟩
    rw [decide_eq_decide]; omega
theorem sig_loop (hT : Stays T) (n72 : SpecName D 72 T) (a54 : SpecAny D 54) (c73 : Cl73 D) {s : Value} {sig : List Sy} {h : H} (r : Sr h s sig) (ht : T h) {K : Kl} {I : List Value → H → Prop}
    (hI : ∀ a0 a1 a2 a3 h, round44_4 D I K a0 a1 a2 a3 h → I [a0, a1, a2, a3] h) (hK1 : ∀ h', Ext h h' → sigL [] sig = 0 → K (.e 0) [] h') (hK2 : ∀ h', Ext h h' → K .r [.int .i64 (sigL [] sig)] h') :
    ∀ (n i : Nat) (h1 : H), sig.length - i ≤ n → i ≤ sig.length → Ext h h1 → sigL (sig.take i) (sig.drop i) = sigL [] sig → I [s, s, .int .i64 ((sig.length : Nat) : Int), .int .i64 ((i : Nat) : Int)] h1 := by
  have hl := r.len
  intro n
  induction n with
  | zero =>
    intro i h1 hn hi he hs
    refine hI _ _ _ _ _ ?_
    unfold round44_4
    rw [intK_int, intK_int, cond_dec]
    refine ⟨fun hlt => by omega, fun _ => ?_⟩
    rw [List.drop_eq_nil_of_le (by omega)] at hs
    exact hK1 _ he hs.symm
  | succ n ih =>
    intro i h1 hn hi he hs
    refine hI _ _ _ _ _ ?_
    unfold round44_4
    rw [intK_int, intK_int, cond_dec]
    refine ⟨fun hlt => ?_, fun _ => ?_⟩
    · refine (r.ext he).row.at_ (by omega) (by rw [sgRow_len]; omega) fun ad v hv hrd _ => ?_
      rw [Int.toNat_natCast] at hv
      obtain ⟨x, hx, rfl⟩ := sgRow_at hv
      obtain ⟨_, htk, hdr⟩ := split_at hx
      rw [hdr] at hs
      have hxs := r.names x (List.mem_of_getElem? hx)
      refine ⟨x.1, x.2, hrd, ?_⟩
      refine two_rule rfl rfl (by trivial) fun b h2 hb0 hb e2 => ?_
      have he2 := he.trans e2
      rw [ptrW_ptr]
      refine ⟨x.1, rd_cell (i := 0) hb rfl, ?_⟩
      rw [ptrW_ptr]
      refine ⟨x.1, rd_cell (i := 0) hb rfl, ?_⟩
      refine n72 _ _ _ _ hxs (hT _ _ he2 ht) fun h3 e3 => ⟨_, rfl, ?_⟩
      have he3 := he2.trans e3
      have hb3 := e3 _ _ hb
      have fin : ∀ (bad : Bool) (h4 : H), Ext h h4 → h4 b = some (.cells (cellsOf x)) → bad = !named2 x.1 →
          j44_4_8 D I K s (.int .i64 (i : Int)) (.pointer (some ⟨b, 0, none⟩)) s (.int .i64 ((sig.length : Nat) : Int)) (.int .i64 (i : Int)) (.bool bad) h4 := by
        intro bad h4 he4 hb4 hbad
        refine sig_tail hT a54 c73 r hx he4 hb4 hbad (fun h' e' h0 => ?_) (fun h' e' h0 => ?_)
        · refine ih (i + 1) h' (by omega) (by omega) e' ?_
          rw [sigL, if_pos h0] at hs
          rw [htk]; exact hs
        · rw [sigL, if_neg h0] at hs
          rw [hs]
          exact hK2 h' e'
      cases hn : isName x.1 with
      | true =>
        rw [Bool.not_true, cond_false]
        exact fin false h3 he3 hb3 (by unfold named2; rw [hn]; rfl)
      | false =>
        rw [Bool.not_false, cond_true, cond_not, cond_eq]
        refine ⟨fun hz => ?_, fun hz => ?_⟩
        · refine fin true h3 he3 hb3 ?_
          unfold named2 isMark
          rw [hn, decide_eq_false (by omega)]; rfl
        · rw [ptrW_ptr]
          refine ⟨x.1, rd_cell (i := 0) hb3 rfl, ?_⟩
          rw [i64_id (by omega) (by omega)]
          refine ⟨by omega, by omega, ?_⟩
          have e1 : ((x.1.size : Int) - 1).toNat = x.1.size - 1 := by omega
          rw [e1]
          show cond _ _ _
          have hpos : decide (0 < x.1.size) = true := decide_eq_true (by omega)
          rw [cond_not, cond_ne]
          refine ⟨fun h35 => ?_, fun h35 => ?_⟩
          · refine fin true h3 he3 hb3 ?_
            unfold named2 isMark
            have : (((x.1.get! (x.1.size - 1)).toNat : Int) == 35) = false := by simpa using h35
            rw [hn, this]; simp
          · rw [ptrW_ptr]
            refine ⟨x.1, rd_cell (i := 0) hb3 rfl, ?_⟩
            refine ⟨by simp, by show (0 : Int) ≤ (x.1.size : Int) - 1; omega, by show (x.1.size : Int) - 1 ≤ _; omega, ?_⟩
            have e2 : x.1.extract (Int.toNat (Option.getD none 0)) (Int.toNat (Option.getD (some ((x.1.size : Int) - 1)) x.1.size)) = x.1.extract 0 (x.1.size - 1) := by
              show x.1.extract 0 ((x.1.size : Int) - 1).toNat = _
              rw [e1]
            rw [e2]
            have h2 : (x.1.extract 0 (x.1.size - 1)).size ≤ x.1.size := by
              rw [← bts_len, bts_extract, List.drop_zero, List.length_take, bts_len]; omega
            refine n72 _ _ _ _ (by omega) (hT _ _ he3 ht) fun h4 e4 => ⟨_, rfl, ?_⟩
            refine fin _ h4 (he3.trans e4) (e4 _ _ hb3) ?_
            unfold named2 isMark
            have : (((x.1.get! (x.1.size - 1)).toNat : Int) == 35) = true := by simpa using h35
            rw [hn, this, hpos]; simp
    · rw [List.drop_eq_nil_of_le (by omega)] at hs
      exact hK1 _ he hs.symm
theorem spec44 (hT : Stays T) (c : Cl44 D) (n72 : SpecName D 72 T) (a54 : SpecAny D 54) (c73 : Cl73 D) : SpecSig D 44 T := by
  intro s sig h k kp r ht hk
  refine c _ _ _ _ ?_
  unfold F44
  have hl := r.len
  rw [r.row.len, sgRow_len, cond_dec]
  refine ⟨fun hbig => ?_, fun hsmall => ?_⟩
  · have := hk h (Ext.refl h)
    unfold chkSig at this
    rw [if_pos (by omega)] at this
    exact this
  · have ec : chkSig sig = sigL [] sig := by unfold chkSig; rw [if_neg (by omega)]
    rw [ec] at hk
    rw [r.row.len, sgRow_len]
    intro I hI
    refine sig_loop hT n72 a54 c73 r ht hI (fun h' e' h0 => ?_) (fun h' e' => ?_) sig.length 0 h (by omega) (by omega) (Ext.refl h) (by simp)
    · rw [xs_e]
      show cond (Nat.beq 0 0) _ _
      have := hk h' e'
      rw [h0] at this
      exact this
    · rw [xs_r, nth0, intK_int]
      exact hk h' e'
end
end Go.Proofs.YtnlhnlmnlfmojaaDoor.Am

namespace Go.Proofs.YtnlhnlmnlfmojaaDoor.Am
open Go Go.Proofs Sys Go.Lib
set_option linter.unusedVariables false
set_option linter.unusedSimpArgs false
set_option maxRecDepth 100000
variable {D : Orc} {T : H → Prop}

theorem dup_loop {s : Value} {sig : List Sy} {h : H} (r : Sr h s sig) {i : Nat} {x : Sy} (hx : sig[i]? = some x) {K : Kl} {I : List Value → H → Prop}
    (hI : ∀ a0 a1 a2 h, round58_11 D I K a0 a1 a2 h → I [a0, a1, a2] h) :
    ∀ (n j : Nat), i - j ≤ n → j ≤ i → (((sig.take i).drop j).any (fun y => y.1.toList == x.1.toList) = true → K .r [.int .i64 36] h) → (((sig.take i).drop j).any (fun y => y.1.toList == x.1.toList) = false → K (.e 2) [s, .int .i64 ((i : Nat) : Int)] h) →
      I [s, .int .i64 ((i : Nat) : Int), .int .i64 ((j : Nat) : Int)] h := by
  have hl := r.len
  have hlt := (List.getElem?_eq_some_iff.mp hx).1
  intro n
  induction n with
  | zero =>
    intro j hn hj h1 h2
    refine hI _ _ _ _ ?_
    unfold round58_11
    rw [intK_int, intK_int, cond_dec]
    refine ⟨fun hlt => by omega, fun _ => h2 ?_⟩
    rw [List.drop_eq_nil_of_le (by rw [List.length_take]; omega)]; rfl
  | succ n ih =>
    intro j hn hj h1 h2
    refine hI _ _ _ _ ?_
    unfold round58_11
    rw [intK_int, intK_int, cond_dec]
    refine ⟨fun hlt' => ?_, fun _ => h2 ?_⟩
    · refine r.row.at_ (by omega) (by rw [sgRow_len]; omega) fun ad v hv _ hj1 => ?_
      rw [Int.toNat_natCast] at hv
      obtain ⟨y, hy, rfl⟩ := sgRow_at hv
      refine ⟨y.1, hj1 0 _ rfl, ?_⟩
      refine r.row.at_ (by omega) (by rw [sgRow_len]; omega) fun ad2 v2 hv2 _ hj2 => ?_
      rw [Int.toNat_natCast] at hv2
      obtain ⟨x2, hx2, rfl⟩ := sgRow_at hv2
      rw [hx] at hx2
      obtain rfl := Option.some.inj hx2
      refine ⟨x.1, hj2 0 _ rfl, ?_⟩
      have hy' : (sig.take i)[j]? = some y := by rw [List.getElem?_take, if_pos (by omega)]; exact hy
      rw [(split_at hy').2.2, List.any_cons] at h1 h2
      cases hq : (y.1.toList == x.1.toList) with
      | true => rw [hq] at h1; exact h1 rfl
      | false =>
        rw [hq, Bool.false_or] at h1 h2
        rw [cond_false, i64_id (by omega) (by omega)]
        exact ih (j + 1) (by omega) (by omega) h1 h2
    · rw [List.drop_eq_nil_of_le (by rw [List.length_take]; omega)]; rfl
theorem refsig_loop (hT : Stays T) (n79 : SpecName D 79 T) (c59 : Cl59 D) {s : Value} {sig : List Sy} {h : H} (r : Sr h s sig) (ht : T h) {K : Kl} {I : List Value → H → Prop}
    (hI : ∀ a0 a1 h, round58_4 D I K a0 a1 h → I [a0, a1] h) (hK1 : ∀ h', Ext h h' → sigL [] sig = 0 → K (.e 0) [] h') (hK2 : ∀ h', Ext h h' → K .r [.int .i64 (sigL [] sig)] h') :
    ∀ (n i : Nat) (h1 : H), sig.length - i ≤ n → i ≤ sig.length → Ext h h1 → sigL (sig.take i) (sig.drop i) = sigL [] sig → I [s, .int .i64 ((i : Nat) : Int)] h1 := by
  have hl := r.len
  intro n
  induction n with
  | zero =>
    intro i h1 hn hi he hs
    refine hI _ _ _ ?_
    unfold round58_4
    rw [intK_int, (r.ext he).row.len, sgRow_len, cond_dec]
    refine ⟨fun hlt => by omega, fun _ => ?_⟩
    rw [List.drop_eq_nil_of_le (by omega)] at hs
    exact hK1 _ he hs.symm
  | succ n ih =>
    intro i h1 hn hi he hs
    refine hI _ _ _ ?_
    unfold round58_4
    rw [intK_int, (r.ext he).row.len, sgRow_len, cond_dec]
    refine ⟨fun hlt => ?_, fun _ => ?_⟩
    · refine (r.ext he).row.at_ (by omega) (by rw [sgRow_len]; omega) fun ad v hv _ hj => ?_
      rw [Int.toNat_natCast] at hv
      obtain ⟨x, hx, rfl⟩ := sgRow_at hv
      obtain ⟨_, htk, hdr⟩ := split_at hx
      rw [hdr, sigL] at hs
      have hxs := r.names x (List.mem_of_getElem? hx)
      refine ⟨x.1, hj 0 _ rfl, ?_⟩
      refine n79 _ _ _ _ hxs (hT _ _ he ht) fun h2 e2 => ⟨_, rfl, ?_⟩
      have he2 := he.trans e2
      have fin : ∀ (bad : Bool) (h4 : H), Ext h h4 → bad = !named2 x.1 → j58_4_7 D I K s (.int .i64 (i : Int)) (.bool bad) h4 := by
        intro bad h4 he4 hbad
        have r4 := r.ext he4
        have stop : sigAt (sig.take i) x ≠ 0 → K .r [.int .i64 (sigAt (sig.take i) x)] h4 := fun h0 => by
          rw [if_neg h0] at hs
          rw [hs]; exact hK2 h4 he4
        unfold j58_4_7
        simp only [intK_int, boolW_bool]
        subst hbad
        cases hn2 : named2 x.1 with
        | false =>
          have e : sigAt (sig.take i) x = 34 := by unfold sigAt; rw [if_pos hn2]
          have := stop (by rw [e]; decide)
          rw [e] at this
          exact this
        | true =>
          rw [Bool.not_true, cond_false]
          have nine : ∀ t : Bool, t = decide (x.2 < 0 ∨ 8 < x.2) → j58_4_9 D I K s (.int .i64 (i : Int)) (.bool t) h4 := by
            intro t ht
            unfold j58_4_9
            simp only [intK_int, boolW_bool]
            by_cases har : x.2 < 0 ∨ 8 < x.2
            · rw [decide_eq_true har] at ht
              subst ht
              have e : sigAt (sig.take i) x = 35 := by unfold sigAt; rw [if_neg (by rw [hn2]; simp), if_pos har]
              have := stop (by rw [e]; decide)
              rw [e] at this
              exact this
            · rw [decide_eq_false har] at ht
              subst ht
              rw [cond_false]
              have e : sigAt (sig.take i) x = if (sig.take i).any (fun y => y.1.toList == x.1.toList) then 36 else 0 := by unfold sigAt; rw [if_neg (by rw [hn2]; simp), if_neg har]
              intro I2 hI2
              refine dup_loop r4 hx hI2 i 0 (by omega) (by omega) (fun ha => ?_) (fun ha => ?_)
              · rw [List.drop_zero] at ha
                rw [ha, if_pos rfl] at e
                rw [xs_r, nth0, intK_int]
                have := stop (by rw [e]; decide)
                rw [e] at this
                exact this
              · rw [List.drop_zero] at ha
                rw [ha, if_neg (by simp)] at e
                rw [xs_e]
                show cond (Nat.beq 2 2) _ _
                rw [nth0, nth1, intK_int, show Nat.beq 2 2 = true from rfl, cond_true, i64_id (by omega) (by omega)]
                refine ih (i + 1) h4 (by omega) (by omega) he4 ?_
                rw [if_pos e] at hs
                rw [htk]; exact hs
          refine r4.row.at_ (by omega) (by rw [sgRow_len]; omega) fun ad v hv _ hj => ?_
          rw [Int.toNat_natCast] at hv
          obtain ⟨x2, hx2, rfl⟩ := sgRow_at hv
          rw [hx] at hx2
          obtain rfl := Option.some.inj hx2
          refine ⟨x.2, hj 1 _ rfl, ?_⟩
          rw [cond_not, cond_dec]
          refine ⟨fun hneg => nine true (by rw [decide_eq_true (.inl hneg)]), fun hpos => ?_⟩
          refine r4.row.at_ (by omega) (by rw [sgRow_len]; omega) fun ad v hv _ hj => ?_
          rw [Int.toNat_natCast] at hv
          obtain ⟨x2, hx2, rfl⟩ := sgRow_at hv
          rw [hx] at hx2
          obtain rfl := Option.some.inj hx2
          refine ⟨x.2, hj 1 _ rfl, nine _ ?_⟩
          rw [decide_eq_decide]; omega
      cases hn2 : isName x.1 with
      | true =>
        rw [Bool.not_true, cond_false]
        exact fin false h2 he2 (by unfold named2; rw [hn2]; rfl)
      | false =>
        rw [Bool.not_false, cond_true]
        refine (r.ext he2).row.at_ (by omega) (by rw [sgRow_len]; omega) fun ad v hv _ hj => ?_
        rw [Int.toNat_natCast] at hv
        obtain ⟨x2, hx2, rfl⟩ := sgRow_at hv
        rw [hx] at hx2
        obtain rfl := Option.some.inj hx2
        refine ⟨x.1, hj 0 _ rfl, ?_⟩
        refine spec59 c59 n79 hxs (hT _ _ he2 ht) fun h3 e3 => ⟨_, rfl, fin _ h3 (he2.trans e3) ?_⟩
        unfold named2; rw [hn2]; rfl
    · rw [List.drop_eq_nil_of_le (by omega)] at hs
      exact hK1 _ he hs.symm
theorem spec58 (hT : Stays T) (c : Cl58 D) (n79 : SpecName D 79 T) (c59 : Cl59 D) : SpecSig D 58 T := by
  intro s sig h k kp r ht hk
  refine c _ _ _ _ ?_
  unfold F58
  have hl := r.len
  rw [r.row.len, sgRow_len, cond_dec]
  refine ⟨fun hbig => ?_, fun hsmall => ?_⟩
  · have := hk h (Ext.refl h)
    unfold chkSig at this
    rw [if_pos (by omega)] at this
    exact this
  · have ec : chkSig sig = sigL [] sig := by unfold chkSig; rw [if_neg (by omega)]
    rw [ec] at hk
    intro I hI
    refine refsig_loop hT n79 c59 r ht hI (fun h' e' h0 => ?_) (fun h' e' => ?_) sig.length 0 h (by omega) (by omega) (Ext.refl h) (by simp)
    · rw [xs_e]
      show cond (Nat.beq 0 0) _ _
      have := hk h' e'
      rw [h0] at this
      exact this
    · rw [xs_r, nth0, intK_int]
      exact hk h' e'

/-! ### for a system -/
/-- What is wrong with a signature for a system. -/
def plainE (sig : List Sy) : Int := if chkSig sig ≠ 0 then chkSig sig else if 64 < sig.length then 37 else if sig.any (fun x => isMark x.1) then 34 else 0
def SpecPlain (D : Orc) (f : Nat) (T : H → Prop) : Prop := ∀ s sig h (k : Kv) kp, Sr h s sig → T h → (∀ h', Ext h h' → k (.int .i64 (plainE sig)) h') → D f [s] h k kp
theorem sigL_named : ∀ (sig pre : List Sy), sigL pre sig = 0 → ∀ x ∈ sig, named2 x.1 = true ∧ 0 ≤ x.2 ∧ x.2 ≤ 8
  | [], _, _, x, hx => by simp at hx
  | y :: r, pre, h, x, hx => by
    unfold sigL at h
    by_cases h0 : sigAt pre y = 0
    · rw [if_pos h0] at h
      rcases List.mem_cons.mp hx with rfl | hx
      · unfold sigAt at h0
        by_cases h1 : named2 x.1 = false
        · rw [if_pos h1] at h0; simp at h0
        · rw [if_neg h1] at h0
          by_cases h2 : x.2 < 0 ∨ 8 < x.2
          · rw [if_pos h2] at h0; simp at h0
          · exact ⟨by simpa using h1, by omega, by omega⟩
      · exact sigL_named r _ h x hx
    · rw [if_neg h0] at h; exact absurd h h0
theorem chkSig_named {sig : List Sy} (h : chkSig sig = 0) : sig.length ≤ 128 ∧ ∀ x ∈ sig, named2 x.1 = true ∧ 0 ≤ x.2 ∧ x.2 ≤ 8 := by
  unfold chkSig at h
  by_cases h1 : 128 < sig.length
  · rw [if_pos h1] at h; simp at h
  · rw [if_neg h1] at h
    exact ⟨by omega, sigL_named sig [] h⟩
end Go.Proofs.YtnlhnlmnlfmojaaDoor.Am

namespace Go.Proofs.YtnlhnlmnlfmojaaDoor.Am
open Go Go.Proofs Sys Go.Lib
set_option linter.unusedVariables false
set_option linter.unusedSimpArgs false
set_option maxRecDepth 100000
variable {D : Orc} {T : H → Prop}

theorem last_of_rune (r : Nat) (h : 128 ≤ r) : ∃ l b, encodeRune (r : Int) = l ++ [b] ∧ 128 ≤ b.toNat := by
  have e : ∀ n : Nat, n < 64 → 128 ≤ (((128 + (n : Int)).toNat.toUInt8 : UInt8)).toNat := fun n hn => by
    have : (128 + (n : Int)).toNat = 128 + n := by omega
    rw [this]
    show 128 ≤ (UInt8.ofNat (128 + n)).toNat
    rw [UInt8.toNat_ofNat']; omega
  have hm : (r : Int) % 64 = ((r % 64 : Nat) : Int) := by omega
  have hlt : r % 64 < 64 := Nat.mod_lt _ (by decide)
  unfold encodeRune
  by_cases h2 : r ≤ 2047
  · rw [encodeRuneZ_two (by omega) (by omega), hm]
    exact ⟨[_], _, rfl, e _ hlt⟩
  · by_cases h3 : (2048 ≤ r ∧ r < 55296) ∨ (57343 < r ∧ r ≤ 65535)
    · rw [encodeRuneZ_three (by omega), hm]
      exact ⟨[_, _], _, rfl, e _ hlt⟩
    · by_cases h4 : 65536 ≤ r ∧ r ≤ 1114111
      · rw [encodeRuneZ_four (by omega) (by omega), hm]
        exact ⟨[_, _, _], _, rfl, e _ hlt⟩
      · rw [encodeRuneZ_bad (by omega)]
        exact ⟨[_, _], _, rfl, by decide⟩
theorem name_last (s : ByteArray) : ∀ (n p : Nat), s.size - p ≤ n → p < s.size → validD ((bts s).drop p) = true → okAll s p = true → (s.get! (s.size - 1)).toNat ≠ 35
  | 0, p, h, hp, _, _ => by omega
  | n + 1, p, h, hp, hv, hok => by
    have hne : (bts s).drop p ≠ [] := by
      intro h0
      have := congrArg List.length h0
      rw [List.length_drop, bts_len] at this
      simp at this; omega
    have hL : decodeL ((bts s).drop p) = Utf8.decode s p := decodeL_drop s p
    have hle := decodeL_le _ hne
    have hw := decodeL_width ((bts s).drop p)
    rw [validD_step _ hne] at hv
    by_cases hb : (decodeL ((bts s).drop p)).1 = 65533 ∧ (decodeL ((bts s).drop p)).2 = 1
    · rw [if_pos hb] at hv; cases hv
    · rw [if_neg hb] at hv
      have he := encode_decode _ hne hb
      rw [okAll_step hp, Bool.and_eq_true] at hok
      rw [hL, List.length_drop, bts_len] at hle
      rw [hL] at hv hw he
      rw [List.drop_drop] at hv
      generalize Utf8.decode s p = rw at hv hw he hle hok
      obtain ⟨r, w⟩ := rw
      dsimp only at hv hw he hle hok
      by_cases hend : p + w < s.size
      · exact name_last s n (p + w) (by omega) hend hv hok.2
      · have hpw : p + w = s.size := by omega
        rw [List.take_of_length_le (by rw [List.length_drop, bts_len]; omega)] at he
        have hg := get!_eq s (s.size - 1) (by omega)
        have hl : (bts s).drop p ≠ [] := hne
        have hlast : ((bts s).drop p).getLast? = some (s.get! (s.size - 1)) := by
          rw [List.getLast?_eq_getElem?, List.getElem?_drop, List.length_drop, bts_len, ← hg]
          congr 1; omega
        rw [← he] at hlast
        by_cases hr : r < 128
        · rw [encodeRune, encodeRuneZ_one (by omega) (by omega)] at hlast
          simp only [List.map_cons, List.map_nil, List.getLast?_singleton, Option.some.injEq] at hlast
          intro h35
          rw [← hlast] at h35
          have h36 : ((r : Int).toNat.toUInt8).toNat = r := by
            show (UInt8.ofNat r).toNat = r
            rw [UInt8.toNat_ofNat']; omega
          rw [h36] at h35
          subst h35
          have := hok.1
          split at this <;> simp [letter, more] at this
        · obtain ⟨l, b, hlb, hb128⟩ := last_of_rune r (by omega)
          rw [hlb, List.getLast?_append] at hlast
          simp at hlast
          rw [← hlast]; omega
theorem name_end {s : ByteArray} (h : isName s = true) : ends35 s = false := by
  unfold isName at h
  simp only [Bool.and_eq_true, bne_iff_ne, ne_eq, decide_eq_true_eq] at h
  obtain ⟨⟨⟨h0, h1⟩, h2⟩, h3⟩ := h
  have := name_last s s.size 0 (by omega) (by omega) (by rw [List.drop_zero]; exact h2) h3
  unfold ends35
  have e : (((s.get! (s.size - 1)).toNat : Int) == 35) = false := by
    simp only [beq_eq_false_iff_ne, ne_eq]; omega
  rw [e]; simp
theorem mark_ends {s : ByteArray} (h : named2 s = true) : ends35 s = isMark s := by
  unfold named2 at h
  cases hn : isName s with
  | true =>
    rw [name_end hn]
    unfold isMark
    have := name_end hn
    unfold ends35 at this
    rw [this]; rfl
  | false =>
    rw [hn, Bool.false_or] at h
    rw [h]
    unfold isMark at h
    simp only [Bool.and_eq_true] at h
    unfold ends35
    rw [h.1.1, h.1.2]; rfl
theorem any_marks {sig : List Sy} (h : ∀ x ∈ sig, named2 x.1 = true) : sig.any (fun x => ends35 x.1) = sig.any (fun x => isMark x.1) := by
  induction sig with
  | nil => rfl
  | cons x r ih => rw [List.any_cons, List.any_cons, mark_ends (h x (by simp)), ih fun y hy => h y (by simp [hy])]
theorem spec27 (hT : Stays T) (c : Cl27 D) (s44 : SpecSig D 44 T) (a54 : SpecAny D 54) (c55 : Cl55 D) (c46 : Cl46 D) (c74 : Cl74 D) : SpecPlain D 27 T := by
  intro s sig h k kp r ht hk
  refine c _ _ _ _ ?_
  unfold F27
  refine s44 _ _ _ _ _ r ht fun h1 e1 => ⟨_, rfl, ?_⟩
  rw [cond_ne]
  refine ⟨fun hne => ?_, fun h0 => ?_⟩
  · have := hk h1 e1
    unfold plainE at this
    rw [if_pos hne] at this
    exact this
  · have ep : plainE sig = if 64 < sig.length then 37 else if sig.any (fun x => isMark x.1) then 34 else 0 := by
      unfold plainE; rw [if_neg (by simpa using h0)]
    rw [ep] at hk
    have hl := r.len
    rw [(r.ext e1).row.len, sgRow_len, cond_dec]
    refine ⟨fun hb => ?_, fun hb => ?_⟩
    · have := hk h1 e1
      rw [if_pos (by omega)] at this
      exact this
    · rw [if_neg (by omega)] at hk
      refine a54 _ _ _ _ _ _ _ (r.ext e1).row (by omega) (fn55 c55 c46 c74 r.names) fun h2 e2 => ⟨_, rfl, ?_⟩
      rw [any_marks fun x hx => ((chkSig_named h0).2 x hx).1]
      have := hk h2 (e1.trans e2)
      cases ha : sig.any (fun x => isMark x.1) with
      | true => rw [ha] at this; exact this
      | false => rw [ha] at this; exact this
theorem spec29 (hT : Stays T) (c : Cl29 D) (s58 : SpecSig D 58 T) (n79 : SpecName D 79 T) (c59 : Cl59 D) : SpecPlain D 29 T := by
  intro s sig h k kp r ht hk
  refine c _ _ _ _ ?_
  unfold F29
  refine s58 _ _ _ _ _ r ht fun h1 e1 => ⟨_, rfl, ?_⟩
  rw [cond_ne]
  refine ⟨fun hne => ?_, fun h0 => ?_⟩
  · have := hk h1 e1
    unfold plainE at this
    rw [if_pos hne] at this
    exact this
  · have ep : plainE sig = if 64 < sig.length then 37 else if sig.any (fun x => isMark x.1) then 34 else 0 := by
      unfold plainE; rw [if_neg (by simpa using h0)]
    rw [ep] at hk
    have hl := r.len
    have r1 := r.ext e1
    rw [r1.row.len, sgRow_len, cond_dec]
    refine ⟨fun hb => ?_, fun hb => ?_⟩
    · have := hk h1 e1
      rw [if_pos (by omega)] at this
      exact this
    · rw [if_neg (by omega)] at hk
      intro I hI
      have key : ∀ (n i : Nat) (h2 : H), sig.length - i ≤ n → i ≤ sig.length → Ext h h2 → (sig.drop i).any (fun x => isMark x.1) = sig.any (fun x => isMark x.1) → I [s, .int .i64 ((i : Nat) : Int)] h2 := by
        intro n
        induction n with
        | zero =>
          intro i h2 hn hi he ha
          refine hI _ _ _ ?_
          unfold round29_7
          rw [intK_int, (r.ext he).row.len, sgRow_len, cond_dec]
          refine ⟨fun hlt => by omega, fun _ => ?_⟩
          rw [List.drop_eq_nil_of_le (by omega)] at ha
          have := hk h2 he
          rw [← ha] at this
          exact this
        | succ n ih =>
          intro i h2 hn hi he ha
          refine hI _ _ _ ?_
          unfold round29_7
          rw [intK_int, (r.ext he).row.len, sgRow_len, cond_dec]
          refine ⟨fun hlt => ?_, fun _ => ?_⟩
          · refine (r.ext he).row.at_ (by omega) (by rw [sgRow_len]; omega) fun ad v hv _ hj => ?_
            rw [Int.toNat_natCast] at hv
            obtain ⟨x, hx, rfl⟩ := sgRow_at hv
            rw [(split_at hx).2.2, List.any_cons] at ha
            refine ⟨x.1, hj 0 _ rfl, ?_⟩
            refine spec59 c59 n79 (r.names x (List.mem_of_getElem? hx)) (hT _ _ he ht) fun h3 e3 => ⟨_, rfl, ?_⟩
            cases hm : isMark x.1 with
            | true =>
              rw [hm, Bool.true_or] at ha
              have := hk h3 (he.trans e3)
              rw [← ha] at this
              exact this
            | false =>
              rw [hm, Bool.false_or] at ha
              rw [cond_false, i64_id (by omega) (by omega)]
              exact ih (i + 1) h3 (by omega) (by omega) (he.trans e3) ha
          · rw [List.drop_eq_nil_of_le (by omega)] at ha
            have := hk h2 he
            rw [← ha] at this
            exact this
      exact key sig.length 0 h1 (by omega) (by omega) e1 (by simp)
end Go.Proofs.YtnlhnlmnlfmojaaDoor.Am

namespace Go.Proofs.YtnlhnlmnlfmojaaDoor.Am
open Go Go.Proofs Sys Go.Lib
set_option linter.unusedVariables false
set_option linter.unusedSimpArgs false
set_option maxRecDepth 100000
variable {D : Orc} {T : H → Prop}

def Z (l : List Int) : List Value := l.map fun n => .int .i64 n
theorem Z_len (l : List Int) : (Z l).length = l.length := by simp [Z]
theorem Z_get {l : List Int} {i : Nat} {v : Value} (h : (Z l)[i]? = some v) : ∃ x, l[i]? = some x ∧ v = .int .i64 x := by
  simp only [Z, List.getElem?_map, Option.map_eq_some_iff] at h
  obtain ⟨x, hx, rfl⟩ := h
  exact ⟨x, hx, rfl⟩
def inI (x : Int) : Prop := -9223372036854775808 ≤ x ∧ x ≤ 9223372036854775807
structure Ir (h : H) (s : Value) (l : List Int) : Prop where
  row : Row h s (Z l)
  len : l.length < 2 ^ 40
  rng : ∀ x ∈ l, inI x
theorem Ir.ext {h h' : H} {s : Value} {l : List Int} (r : Ir h s l) (e : Ext h h') : Ir h' s l := ⟨r.row.ext e, r.len, r.rng⟩
theorem Ir.but {h h' : H} {s : Value} {l : List Int} (r : Ir h s l) {c : Nat} (ho : Off c s) (e : ExtBut c h h') : Ir h' s l := ⟨r.row.but ho e, r.len, r.rng⟩
theorem Sr.but {h h' : H} {s : Value} {sig : List Sy} (r : Sr h s sig) {c : Nat} (ho : Off c s) (e : ExtBut c h h') : Sr h' s sig := ⟨r.row.but ho e, r.len, r.names⟩
theorem Ir.len_ {h : H} {s : Value} {l : List Int} (r : Ir h s l) {k : Nat → Prop} : lenW s k ↔ k l.length := by rw [r.row.len, Z_len]
theorem Ir.at_ {h : H} {s : Value} {l : List Int} (r : Ir h s l) {n : Int} (h0 : 0 ≤ n) (h1 : n < l.length) {k : Addr → Prop} (hk : ∀ a x, l[n.toNat]? = some x → inI x → rd h a = some (.int .i64 x) → k a) : slAtW s n 1 k :=
  r.row.at_ h0 (by rw [Z_len]; exact h1) fun a v hv ha => by
    obtain ⟨x, hx, rfl⟩ := Z_get hv
    exact hk a x hx (r.rng x (List.mem_of_getElem? hx)) ha
/-- A signature in plain words. -/
def S2 (sig : List Sy) : Sg := sig.map fun x => (bts x.1, x.2)
theorem S2_len (sig : List Sy) : (S2 sig).length = sig.length := by simp [S2]
theorem kids_of {sig : List Sy} {c : Int} {x : Sy} (h0 : 0 ≤ c) (hx : sig[c.toNat]? = some x) : kids (S2 sig) c = x.2.toNat := by
  unfold kids S2
  rw [if_neg (by omega), List.getElem?_map, hx]; rfl
theorem kids_neg {sig : List Sy} {c : Int} (h0 : c < 0) : kids (S2 sig) c = 0 := by unfold kids; rw [if_pos h0]
def ArOk (sig : List Sy) : Prop := ∀ x ∈ sig, 0 ≤ x.2 ∧ x.2 ≤ 8
theorem kids_le {sig : List Sy} (ha : ArOk sig) (c : Int) : kids (S2 sig) c ≤ 8 := by
  unfold kids
  split
  · omega
  · unfold S2
    rw [List.getElem?_map]
    cases hx : sig[c.toNat]? with
    | none => simp
    | some x =>
      have := ha x (List.mem_of_getElem? hx)
      simp; omega
theorem ar_of {sig : List Sy} (h : chkSig sig = 0) : ArOk sig := fun x hx => ((chkSig_named h).2 x hx).2
def SpecTerm (D : Orc) (f : Nat) : Prop := ∀ s t sig l h (k : Kv) kp, Sr h s sig → ArOk sig → Ir h t l → k (.int .i64 (scan (S2 sig) 1 l)) h → D f [s, t] h k kp
theorem term_loop {s t : Value} {sig : List Sy} {l : List Int} {h : H} (r : Sr h s sig) (ha : ArOk sig) (q : Ir h t l) {K : Kl} {I : List Value → H → Prop}
    (hI : ∀ a0 a1 a2 a3 h, round60_3 D I K a0 a1 a2 a3 h → I [a0, a1, a2, a3] h) {e : Int} (hK0 : e = 0 → K (.e 0) [] h) (hK : e ≠ 0 → K .r [.int .i64 e] h) :
    ∀ (m n i : Nat), l.length - i ≤ m → i ≤ l.length → n ≤ 8 * i + 1 → (n = 0 → l.drop i = []) → scan (S2 sig) n (l.drop i) = e → I [s, t, .int .i64 ((n : Nat) : Int), .int .i64 ((i : Nat) : Int)] h := by
  have hl := q.len
  have hsl := r.len
  intro m
  induction m with
  | zero =>
    intro n i hm hi hn h0 he
    refine hI _ _ _ _ _ ?_
    unfold round60_3
    rw [intK_int, intK_int, cond_dec]
    have hd : l.drop i = [] := List.drop_eq_nil_of_le (by omega)
    rw [hd] at he
    refine ⟨fun hpos => ?_, fun hz => ?_⟩
    · rw [q.len_, cond_eq]
      refine ⟨fun _ => ?_, fun hne => by omega⟩
      obtain ⟨n', rfl⟩ : ∃ n', n = n' + 1 := ⟨n - 1, by omega⟩
      have e31 : e = 31 := by rw [← he]; rfl
      rw [e31] at hK
      exact hK (by decide)
    · have : n = 0 := by omega
      subst this
      exact hK0 (by rw [← he]; rfl)
  | succ m ih =>
    intro n i hm hi hn h0 he
    refine hI _ _ _ _ _ ?_
    unfold round60_3
    rw [intK_int, intK_int, cond_dec]
    refine ⟨fun hpos => ?_, fun hz => ?_⟩
    · rw [q.len_, cond_eq]
      obtain ⟨n', rfl⟩ : ∃ n', n = n' + 1 := ⟨n - 1, by omega⟩
      refine ⟨fun heq => ?_, fun hne => ?_⟩
      · have hd : l.drop i = [] := List.drop_eq_nil_of_le (by omega)
        rw [hd] at he
        have e31 : e = 31 := by rw [← he]; rfl
        rw [e31] at hK
        exact hK (by decide)
      · refine q.at_ (by omega) (by omega) fun ad c hc hci hrd => ?_
        rw [Int.toNat_natCast] at hc
        rw [(split_at hc).2.2, scan] at he
        refine ⟨c, hrd, ?_⟩
        rw [r.row.len, sgRow_len]
        have bad : ∀ b : Bool, b = badC sig.length c → j60_3_8 D I K s t (.int .i64 (((n' + 1 : Nat)) : Int)) (.int .i64 (i : Int)) (.bool b) h := by
          intro b hb
          unfold j60_3_8
          simp only [intK_int, boolW_bool]
          rw [S2_len, ← hb] at he
          cases b with
          | true =>
            rw [if_pos rfl] at he
            rw [← he] at hK
            exact hK (by decide)
          | false =>
            rw [if_neg (by simp)] at he
            have hcr : -1048576 ≤ c ∧ c < sig.length := by
              simp only [badC, Bool.false_eq, Bool.or_eq_false_iff, decide_eq_false_iff_not] at hb
              omega
            rw [cond_false]
            have ten : ∀ x : Int, x = ((n' + kids (S2 sig) c : Nat) : Int) → j60_3_12 D I K s t (.int .i64 x) (.int .i64 (i : Int)) h := by
              intro x hx
              subst hx
              have hkl := kids_le ha c
              unfold j60_3_12
              simp only [intK_int]
              rw [cond_eq]
              have fin : ∀ b : Bool, b = (decide (n' + kids (S2 sig) c = 0) && decide (i + 1 < l.length)) → j60_3_13 D I K s t (.int .i64 ((n' + kids (S2 sig) c : Nat) : Int)) (.int .i64 (i : Int)) (.bool b) h := by
                intro b hb
                unfold j60_3_13
                simp only [intK_int, boolW_bool]
                cases b with
                | true =>
                  have hb := hb.symm
                  simp only [Bool.and_eq_true, decide_eq_true_eq] at hb
                  have hne : l.drop (i + 1) ≠ [] := by
                    intro h0
                    have := congrArg List.length h0
                    rw [List.length_drop] at this
                    simp at this; omega
                  obtain ⟨y, u, hyu⟩ := List.exists_cons_of_ne_nil hne
                  rw [hb.1, hyu] at he
                  have e32 : e = 32 := by rw [← he]; rfl
                  rw [e32] at hK
                  exact hK (by decide)
                | false =>
                  rw [cond_false, i64_id (by omega) (by omega)]
                  refine ih (n' + kids (S2 sig) c) (i + 1) (by omega) (by omega) (by omega) (fun hz => ?_) he
                  have hb := hb.symm
                  simp only [Bool.and_eq_false_iff, decide_eq_false_iff_not] at hb
                  exact List.drop_eq_nil_of_le (by omega)
              refine ⟨fun hz => ?_, fun hz => ?_⟩
              · rw [q.len_, i64_id (by omega) (by omega)]
                refine fin _ ?_
                rw [decide_eq_true (show n' + kids (S2 sig) c = 0 by omega), Bool.true_and, decide_eq_decide]; omega
              · refine fin false ?_
                rw [decide_eq_false (show ¬ n' + kids (S2 sig) c = 0 by omega), Bool.false_and]
            refine q.at_ (by omega) (by omega) fun ad2 c2 hc2 _ hrd2 => ?_
            rw [Int.toNat_natCast, hc] at hc2
            obtain rfl := Option.some.inj hc2
            refine ⟨c, hrd2, ?_⟩
            rw [cond_dec]
            refine ⟨fun hge => ?_, fun hlt => ?_⟩
            · refine q.at_ (by omega) (by omega) fun ad3 c3 hc3 _ hrd3 => ?_
              rw [Int.toNat_natCast, hc] at hc3
              obtain rfl := Option.some.inj hc3
              refine ⟨c, hrd3, ?_⟩
              refine r.row.at_ (by omega) (by rw [sgRow_len]; omega) fun ad4 v hv _ hj => ?_
              obtain ⟨x, hx, rfl⟩ := sgRow_at hv
              refine ⟨x.2, hj 1 _ rfl, ten _ ?_⟩
              have hax := ha x (List.mem_of_getElem? hx)
              rw [kids_of (by omega) hx, i64_id (n := ((n' + 1 : Nat) : Int) - 1) (by omega) (by omega), i64_id (by omega) (by omega)]
              omega
            · refine ten _ ?_
              rw [kids_neg (by omega), i64_id (by omega) (by omega)]; omega
        rw [cond_not, cond_dec]
        refine ⟨fun hge => bad true ?_, fun hlt => ?_⟩
        · simp only [badC, Bool.true_eq, Bool.or_eq_true, decide_eq_true_eq]; omega
        · refine q.at_ (by omega) (by omega) fun ad2 c2 hc2 _ hrd2 => ?_
          rw [Int.toNat_natCast, hc] at hc2
          obtain rfl := Option.some.inj hc2
          refine ⟨c, hrd2, bad _ ?_⟩
          have : decide ((sig.length : Int) ≤ c) = false := decide_eq_false (by omega)
          unfold badC
          rw [this, Bool.false_or]
    · have : n = 0 := by omega
      subst this
      rw [h0 rfl] at he
      exact hK0 (by rw [← he]; rfl)
theorem spec60 (c : Cl60 D) : SpecTerm D 60 := by
  intro s t sig l h k kp r ha q hk
  refine c _ _ _ _ _ ?_
  unfold F60
  intro I hI
  refine term_loop r ha q hI (e := scan (S2 sig) 1 l) (fun h0 => ?_) (fun _ => ?_) l.length 1 0 (by omega) (by omega) (by omega) (by simp) (by simp)
  · rw [xs_e]
    show cond (Nat.beq 0 0) _ _
    rw [h0] at hk; exact hk
  · rw [xs_r, nth0, intK_int]; exact hk
/-! ### is it there? -/
def SpecHasI (D : Orc) (f : Nat) : Prop := ∀ s l (x : Int) h (k : Kv) kp, Ir h s l → k (.bool (decide (x ∈ l))) h → D f [s, .int .i64 x] h k kp
theorem mem_drop {l : List Int} {i : Nat} {c x : Int} (hc : l[i]? = some c) : decide (x ∈ l.drop i) = (decide (x = c) || decide (x ∈ l.drop (i + 1))) := by
  rw [(split_at hc).2.2, Bool.eq_iff_iff]
  simp
theorem spec62 (c : Cl62 D) : SpecHasI D 62 := by
  intro s l x h k kp r hk
  refine c _ _ _ _ _ ?_
  unfold F62
  rw [intK_int]
  have hl := r.len
  intro I hI
  have key : ∀ (n i : Nat), l.length - i ≤ n → i ≤ l.length → decide (x ∈ l.drop i) = decide (x ∈ l) → I [s, .int .i64 x, .int .i64 ((i : Nat) : Int)] h := by
    intro n
    induction n with
    | zero =>
      intro i hn hi ha
      refine hI _ _ _ _ ?_
      unfold round62_2
      rw [intK_int, intK_int, r.len_, cond_dec]
      refine ⟨fun hlt => by omega, fun _ => ?_⟩
      rw [List.drop_eq_nil_of_le (by omega)] at ha
      rw [← ha] at hk
      exact hk
    | succ n ih =>
      intro i hn hi ha
      refine hI _ _ _ _ ?_
      unfold round62_2
      rw [intK_int, intK_int, r.len_, cond_dec]
      refine ⟨fun hlt => ?_, fun _ => ?_⟩
      · refine r.at_ (by omega) (by omega) fun ad c hc _ hrd => ?_
        rw [Int.toNat_natCast] at hc
        rw [mem_drop hc] at ha
        refine ⟨c, hrd, ?_⟩
        rw [cond_eq]
        refine ⟨fun he => ?_, fun hne => ?_⟩
        · subst he
          rw [decide_eq_true rfl, Bool.true_or] at ha
          rw [← ha] at hk
          exact hk
        · rw [decide_eq_false (fun h => hne h.symm), Bool.false_or] at ha
          rw [i64_id (by omega) (by omega)]
          exact ih (i + 1) (by omega) (by omega) ha
      · rw [List.drop_eq_nil_of_le (by omega)] at ha
        rw [← ha] at hk
        exact hk
  exact key l.length 0 (by omega) (by omega) (by simp)
theorem spec49 (c : Cl49 D) (c75 : Cl75 D) : SpecHasI D 49 := by
  intro s l x h k kp r hk
  refine c _ _ _ _ _ ?_
  unfold F49
  rw [intK_int]
  refine c75 _ _ _ _ _ ?_
  unfold F75
  rw [intK_int, r.len_]
  have hl := r.len
  intro I hI
  have key : ∀ (n i : Nat), l.length - i ≤ n → i ≤ l.length → decide (x ∈ l.drop i) = decide (x ∈ l) → I [s, .int .i64 x, .int .i64 ((l.length : Nat) : Int), .int .i64 ((i : Nat) : Int)] h := by
    intro n
    induction n with
    | zero =>
      intro i hn hi ha
      refine hI _ _ _ _ _ ?_
      unfold round75_2
      rw [intK_int, intK_int, intK_int, cond_dec]
      refine ⟨fun hlt => by omega, fun _ => ?_⟩
      rw [List.drop_eq_nil_of_le (by omega)] at ha
      rw [← ha] at hk
      exact ⟨_, rfl, hk⟩
    | succ n ih =>
      intro i hn hi ha
      refine hI _ _ _ _ _ ?_
      unfold round75_2
      rw [intK_int, intK_int, intK_int, cond_dec]
      refine ⟨fun hlt => ?_, fun _ => ?_⟩
      · refine r.at_ (by omega) (by omega) fun ad c hc _ hrd => ?_
        rw [Int.toNat_natCast] at hc
        rw [mem_drop hc] at ha
        refine ⟨c, hrd, ?_⟩
        rw [cond_eq]
        refine ⟨fun he => ?_, fun hne => ?_⟩
        · subst he
          rw [decide_eq_true rfl, Bool.true_or] at ha
          rw [← ha] at hk
          rw [xs_r, nth0, intK_int]
          refine ⟨_, rfl, ?_⟩
          have hd : decide (((i : Nat) : Int) ≥ 0) = true := by simp
          rw [hd]; exact hk
        · rw [decide_eq_false hne, Bool.false_or] at ha
          rw [i64_id (by omega) (by omega)]
          exact ih (i + 1) (by omega) (by omega) ha
      · rw [List.drop_eq_nil_of_le (by omega)] at ha
        rw [← ha] at hk
        exact ⟨_, rfl, hk⟩
  exact key l.length 0 (by omega) (by omega) (by simp)
end Go.Proofs.YtnlhnlmnlfmojaaDoor.Am

namespace Go.Proofs.YtnlhnlmnlfmojaaDoor.Am
open Go Go.Proofs Sys Go.Lib
set_option linter.unusedVariables false
set_option linter.unusedSimpArgs false
set_option maxRecDepth 100000
variable {D : Orc} {T : H → Prop}

theorem Buf.but {h0 h h' : H} {s : Value} {vs : List Value} (r : Buf h0 h s vs) {c : Nat} (ho : Blk s ≠ some c) (e : ExtBut c h h') : Buf h0 h' s vs := by
  rcases r.pos with ⟨a, h1, h2⟩ | ⟨b, off, cap, l, hc, h1, rfl, h2, h3⟩
  · exact .inl ⟨⟨a, h1⟩, h2⟩
  · exact .inr ⟨b, off, cap, l, h1, rfl, e b _ (fun x => ho (by rw [Blk_some hc, x])) h2, h3⟩
theorem Buf.blk {h0 h : H} {s : Value} {vs : List Value} (r : Buf h0 h s vs) {d : Nat} (hd : Blk s = some d) : h0 d = none := by
  rcases r.pos with ⟨a, rfl, _⟩ | ⟨b, off, cap, l, hc, h1, rfl, _⟩
  · rw [Blk_nil] at hd; cases hd
  · rw [Blk_some hc] at hd; cases hd; exact h1
theorem Buf.push {h0 h : H} {s : Value} {vs : List Value} (r : Buf h0 h s vs) (e : Ext h0 h) (hs : vs.length < 2 ^ 40) {v z : Value} {bytes : Nat} (hb : bytes ≤ 64) (hv : one v = true) {O U : Prop} (hO : O) (hU : U) {K : Value → H → Prop}
    (hK : ∀ s' h', Buf h0 h' s' (vs ++ [v]) → Ext h0 h' → K s' h') :
    O ∧ U ∧ newSl h 1 [v] (fun s31 h32 => slenW s31 (fun n33 => srcW h32 1 s31 (n33) (fun w34 => apW h32 1 bytes [z] s (n33) w34 (fun s35 h36 => K s35 h36)))) := by
  refine ⟨hO, hU, fun b hb' => ?_⟩
  have hrow : Row (h.set b (.cells [v])) (.slice (some ⟨b, 0, none⟩) 1 1) [v] := Row.cells set_here rfl
  show slenW (.slice (some ⟨b, 0, none⟩) 1 1) _
  rw [slenW_slice]
  refine hrow.src (by simp) ?_
  have hbytes : 2 * (vs.length + [v].length) * bytes ≤ 2 ^ 48 := by
    have h1 : vs.length + [v].length ≤ 1099511627776 := by simp; omega
    have h2 : 2 * (vs.length + [v].length) ≤ 2199023255552 := by omega
    calc 2 * (vs.length + [v].length) * bytes ≤ 2199023255552 * 64 := Nat.mul_le_mul h2 hb
      _ ≤ 2 ^ 48 := by decide
  refine (r.ext (Ext.new hb')).app (e.trans (Ext.new hb')) rfl (by simp [hv]) hbytes (by simp; omega) fun s' h' r' e' => ?_
  exact hK s' h' r' e'
/-- A row in a block of its own, that h0 does not know. -/
structure Own (h0 h : H) (s : Value) (vs : List Value) : Prop where
  ext : Ext h0 h
  buf : Buf (h.drop s) h s vs
  blk : ∀ d, Blk s = some d → h0 d = none
theorem Own.nil_ {h0 h : H} (e : Ext h0 h) : Own h0 h (.slice none 0 0) [] := ⟨e, .inl ⟨⟨none, rfl⟩, rfl⟩, fun d hd => by rw [Blk_nil] at hd; cases hd⟩
theorem Own.row {h0 h : H} {s : Value} {vs : List Value} (o : Own h0 h s vs) : Row h s vs := o.buf.row
theorem Own.but {h0 h h' : H} {s : Value} {vs : List Value} (o : Own h0 h s vs) {c : Nat} (hc : Blk s ≠ some c) (e : ExtBut c h h') (he : Ext h0 h') : Own h0 h' s vs := ⟨he, (o.buf.but hc e).self, o.blk⟩
theorem Own.later {h0 h h' : H} {s : Value} {vs : List Value} (o : Own h0 h s vs) (e : Ext h h') : Own h0 h' s vs := ⟨o.ext.trans e, (o.buf.ext e).self, o.blk⟩
theorem Own.push {h0 h : H} {s : Value} {vs : List Value} (o : Own h0 h s vs) (hs : vs.length < 2 ^ 40) {v z : Value} {bytes : Nat} (hb : bytes ≤ 64) (hv : one v = true) {O U : Prop} (hO : O) (hU : U) {K : Value → H → Prop}
    (hK : ∀ s' h', Own h0 h' s' (vs ++ [v]) → (∀ d x, Blk s ≠ some d → h d = some x → h' d = some x) → (∀ d, Blk s' = some d → Blk s = some d ∨ h d = none) → K s' h') :
    O ∧ U ∧ newSl h 1 [v] (fun s31 h32 => slenW s31 (fun n33 => srcW h32 1 s31 (n33) (fun w34 => apW h32 1 bytes [z] s (n33) w34 (fun s35 h36 => K s35 h36)))) := by
  refine o.buf.push (Ext.drop h s) hs hb hv hO hU fun s' h' r' e' => ?_
  have hkeep : ∀ d x, Blk s ≠ some d → h d = some x → h' d = some x := fun d x hd hx => e' d x (by rw [drop_away hd]; exact hx)
  have hnew : ∀ d, Blk s' = some d → Blk s = some d ∨ h d = none := fun d hd => by
    have := r'.blk hd
    by_cases hx : Blk s = some d
    · exact .inl hx
    · rw [drop_away hx] at this; exact .inr this
  refine hK s' h' ⟨fun d x hx => ?_, r'.self, fun d hd => ?_⟩ hkeep hnew
  · refine hkeep d x (fun hb => ?_) (o.ext d x hx)
    rw [o.blk d hb] at hx; cases hx
  · rcases hnew d hd with h1 | h1
    · exact o.blk d h1
    · exact o.ext.free h1

theorem Z_app (l m : List Int) : Z l ++ Z m = Z (l ++ m) := by simp [Z]
def SpecVars (D : Orc) (f : Nat) : Prop := ∀ s l h (k : Kv) kp, Ir h s l → (∀ v h', Ir h' v (vars l) → Ext h h' → k v h') → D f [s] h k kp
theorem varsGo_len : ∀ (t out : List Int), (varsGo out t).length ≤ out.length + t.length
  | [], out => by simp [varsGo]
  | c :: t, out => by
    unfold varsGo
    split
    · have := varsGo_len t (out ++ [-1 - c]); simp at this ⊢; omega
    · have := varsGo_len t out; simp at this ⊢; omega
theorem varsGo_rng : ∀ (t out : List Int), (∀ x ∈ t, inI x) → (∀ x ∈ out, inI x) → ∀ x ∈ varsGo out t, inI x
  | [], out, _, ho, x, hx => ho x hx
  | c :: t, out, ht, ho, x, hx => by
    unfold varsGo at hx
    split at hx
    · refine varsGo_rng t _ (fun y hy => ht y (by simp [hy])) (fun y hy => ?_) x hx
      rcases List.mem_append.mp hy with hy | hy
      · exact ho y hy
      · have := ht c (by simp)
        simp only [List.mem_singleton] at hy
        subst hy
        unfold inI at this ⊢; omega
    · exact varsGo_rng t out (fun y hy => ht y (by simp [hy])) ho x hx
/-- The inner loop: is it there? -/
theorem in_loop {s t : Value} {l out : List Int} {h : H} (q : Ir h s l) (r : Ir h t out) {i : Nat} {c : Int} (hc : l[i]? = some c) {K : Kl} {I : List Value → H → Prop}
    (hI : ∀ a0 a1 a2 a3 a4 h, round61_7 D I K a0 a1 a2 a3 a4 h → I [a0, a1, a2, a3, a4] h) (b0 : Bool) (hK : K (.e 2) [s, t, .int .i64 (i : Int), .bool (b0 || decide ((-1 - c) ∈ out))] h) :
    ∀ (n j : Nat) (b : Bool), out.length - j ≤ n → j ≤ out.length → (b || decide ((-1 - c) ∈ out.drop j)) = (b0 || decide ((-1 - c) ∈ out)) → I [s, t, .int .i64 (i : Int), .bool b, .int .i64 (j : Int)] h := by
  have hl := r.len
  have hq := q.len
  have hi := (List.getElem?_eq_some_iff.mp hc).1
  have hci := q.rng c (List.mem_of_getElem? hc)
  intro n
  induction n with
  | zero =>
    intro j b hn hj hb
    refine hI _ _ _ _ _ _ ?_
    unfold round61_7
    rw [intK_int, boolW_bool, intK_int, r.len_, cond_dec]
    refine ⟨fun hlt => by omega, fun _ => ?_⟩
    rw [List.drop_eq_nil_of_le (by omega)] at hb
    simp only [List.not_mem_nil, decide_false, Bool.or_false] at hb
    rw [hb]; exact hK
  | succ n ih =>
    intro j b hn hj hb
    refine hI _ _ _ _ _ _ ?_
    unfold round61_7
    rw [intK_int, boolW_bool, intK_int, r.len_, cond_dec]
    refine ⟨fun hlt => ?_, fun _ => ?_⟩
    · have next : ∀ b' : Bool, (b' || decide ((-1 - c) ∈ out.drop (j + 1))) = (b0 || decide ((-1 - c) ∈ out)) → j61_7_8 D I K s t (.int .i64 (i : Int)) (.bool b') (.int .i64 (j : Int)) h := by
        intro b' hb'
        unfold j61_7_8
        simp only [intK_int, boolW_bool]
        rw [i64_id (by omega) (by omega)]
        exact ih (j + 1) b' (by omega) (by omega) hb'
      cases b with
      | true =>
        rw [Bool.not_true, cond_false]
        exact next true hb
      | false =>
        rw [Bool.not_false, cond_true]
        refine r.at_ (by omega) (by omega) fun ad x hx _ hrd => ⟨x, hrd, ?_⟩
        refine q.at_ (by omega) (by omega) fun ad2 c2 hc2 _ hrd2 => ⟨c2, hrd2, ?_⟩
        rw [Int.toNat_natCast] at hx hc2
        rw [hc] at hc2
        obtain rfl := Option.some.inj hc2
        refine next _ ?_
        unfold inI at hci
        rw [← hb, mem_drop hx, Bool.false_or, i64_id (by omega) (by omega)]
        congr 1
        rw [Bool.eq_iff_iff]
        simp only [beq_iff_eq, decide_eq_true_eq]
        exact eq_comm
    · rw [List.drop_eq_nil_of_le (by omega)] at hb
      simp only [List.not_mem_nil, decide_false, Bool.or_false] at hb
      rw [hb]; exact hK
theorem spec61 (c : Cl61 D) : SpecVars D 61 := by
  intro s l h k kp q hk
  refine c _ _ _ _ ?_
  unfold F61
  have hq := q.len
  intro I hI
  have key : ∀ (n i : Nat) (t : Value) (out : List Int) (h1 : H), l.length - i ≤ n → i ≤ l.length → Own h h1 t (Z out) → out.length ≤ i → (∀ x ∈ out, inI x) → varsGo out (l.drop i) = vars l → I [s, t, .int .i64 (i : Int)] h1 := by
    intro n
    induction n with
    | zero =>
      intro i t out h1 hn hi o hol hor hv
      refine hI _ _ _ _ ?_
      unfold round61_3
      rw [intK_int, (q.ext o.ext).len_, cond_dec]
      refine ⟨fun hlt => by omega, fun _ => ?_⟩
      rw [List.drop_eq_nil_of_le (by omega)] at hv
      have hv : out = vars l := hv
      subst hv
      rw [xs_e]
      show cond (Nat.beq 0 0) _ _
      rw [nth0]
      exact hk _ _ ⟨o.row, by omega, hor⟩ o.ext
    | succ n ih =>
      intro i t out h1 hn hi o hol hor hv
      refine hI _ _ _ _ ?_
      unfold round61_3
      rw [intK_int, (q.ext o.ext).len_, cond_dec]
      refine ⟨fun hlt => ?_, fun _ => ?_⟩
      · refine (q.ext o.ext).at_ (by omega) (by omega) fun ad c hc hci hrd => ⟨c, hrd, ?_⟩
        rw [Int.toNat_natCast] at hc
        rw [(split_at hc).2.2, varsGo] at hv
        intro I2 hI2
        refine in_loop (q.ext o.ext) ⟨o.row, by omega, hor⟩ hc hI2 (decide (c ≥ 0)) ?_ out.length 0 _ (by omega) (by omega) (by simp)
        rw [xs_e]
        show cond (Nat.beq 2 2) _ _
        rw [show Nat.beq 2 2 = true from rfl, cond_true]
        simp only [nth0, nth1, nth2, nth3, intK_int, boolW_bool]
        have next : ∀ (K : Kl) t' out' h2, Own h h2 t' (Z out') → out'.length ≤ i + 1 → (∀ x ∈ out', inI x) → varsGo out' (l.drop (i + 1)) = vars l → j61_3_4 D I K s t' (.int .i64 (i : Int)) h2 := by
          intro K t' out' h2 o' hol' hor' hv'
          unfold j61_3_4
          rw [intK_int, i64_id (by omega) (by omega)]
          exact ih (i + 1) t' out' h2 (by omega) (by omega) o' hol' hor' hv'
        cases hb : (decide (c ≥ 0) || decide ((-1 - c) ∈ out)) with
        | true =>
          rw [Bool.not_true, cond_false]
          refine next _ t out h1 o (by omega) hor ?_
          rw [if_neg ?_] at hv
          · exact hv
          · simp only [Bool.or_eq_true, decide_eq_true_eq] at hb
            rintro ⟨h1, h2⟩
            rcases hb with hb | hb
            · omega
            · exact h2 hb
        | false =>
          rw [Bool.not_false, cond_true]
          simp only [Bool.or_eq_false_iff, decide_eq_false_iff_not] at hb
          rw [if_pos ⟨by omega, hb.2⟩] at hv
          refine (q.ext o.ext).at_ (by omega) (by omega) fun ad2 c2 hc2 _ hrd2 => ⟨c2, hrd2, ?_⟩
          rw [Int.toNat_natCast, hc] at hc2
          obtain rfl := Option.some.inj hc2
          have hci' := hci
          unfold inI at hci'
          rw [i64_id (n := -1 - c) (by omega) (by omega)]
          refine o.push (by rw [Z_len]; omega) (by decide) rfl rfl (by decide) fun s' h2 o' _ _ => ?_
          have : Z out ++ [Value.int .i64 (-1 - c)] = Z (out ++ [-1 - c]) := by simp [Z]
          rw [this] at o'
          refine next _ s' (out ++ [-1 - c]) h2 o' (by simp; omega) (fun x hx => ?_) hv
          rcases List.mem_append.mp hx with hx | hx
          · exact hor x hx
          · simp only [List.mem_singleton] at hx
            subst hx; unfold inI; omega
      · rw [List.drop_eq_nil_of_le (by omega)] at hv
        have hv : out = vars l := hv
        subst hv
        rw [xs_e]
        show cond (Nat.beq 0 0) _ _
        rw [nth0]
        exact hk _ _ ⟨o.row, by omega, hor⟩ o.ext
  exact key l.length 0 _ [] h (by omega) (by omega) (Own.nil_ (Ext.refl h)) (by simp) (by simp) (by simp [vars])
end Go.Proofs.YtnlhnlmnlfmojaaDoor.Am

namespace Go.Proofs.YtnlhnlmnlfmojaaDoor.Am
open Go Go.Proofs Sys Go.Lib
set_option linter.unusedVariables false
set_option linter.unusedSimpArgs false
set_option maxRecDepth 100000
variable {D : Orc} {T : H → Prop}

def KeysAre (es : List MapEntry) (ks : List Int) : Prop := es.map (·.key) = ks.map (Value.int .i64)
theorem find_in {x : Int} : ∀ {es : List MapEntry} {ks : List Int}, KeysAre es ks → ∀ n, (x ∈ ks → ∃ i e, Instr.findNow (.int .i64) (.int .i64 x) es n = some (some (i, e.val)) ∧ e ∈ es) ∧ (x ∉ ks → Instr.findNow (.int .i64) (.int .i64 x) es n = some none)
  | [], ks, hk, n => by
    have : ks = [] := by cases ks <;> simp [KeysAre] at hk ⊢
    subst this
    exact ⟨fun h => by simp at h, fun _ => rfl⟩
  | e :: es, [], hk, n => by simp [KeysAre] at hk
  | e :: es, y :: ks, hk, n => by
    simp only [KeysAre, List.map_cons, List.cons.injEq] at hk
    obtain ⟨h1, h2⟩ := hk
    obtain ⟨i1, i2⟩ := find_in (x := x) (es := es) (ks := ks) h2 (n + 1)
    have hs : Instr.sameNow (.int .i64) (.int .i64 x) e.key = some (x == y) := by rw [h1]; simp [Instr.sameNow]
    unfold Instr.findNow
    rw [hs]
    by_cases hxy : x = y
    · subst hxy
      refine ⟨fun _ => ⟨n, e, by simp, by simp⟩, fun h => absurd (by simp) h⟩
    · have : (x == y) = false := by simpa using hxy
      rw [this]
      refine ⟨fun h => ?_, fun h => ?_⟩
      · obtain ⟨i, e', h3, h4⟩ := i1 (by simpa [hxy] using h)
        exact ⟨i, e', h3, by simp [h4]⟩
      · exact i2 fun h' => h (by simp [h'])
theorem look_rule {es : List MapEntry} {ks : List Int} {x : Int} {z : Value} {k : Value → Bool → Prop} (hk : KeysAre es ks) (h1 : x ∈ ks → ∀ e ∈ es, k e.val true) (h2 : x ∉ ks → k z false) : lookW (.int .i64) (.int .i64 x) es z k := by
  obtain ⟨i1, i2⟩ := find_in (x := x) hk 0
  unfold lookW
  by_cases hx : x ∈ ks
  · obtain ⟨i, e, h3, h4⟩ := i1 hx
    rw [h3]; exact h1 hx e h4
  · rw [i2 hx]; exact h2 hx
theorem mapU_new {h : H} {b : Nat} {es : List MapEntry} {c : Nat} {ks : List Int} {x : Int} {v : Value} {k : H → Prop} (hb : h b = some (.map es c)) (hk : KeysAre es ks) (hx : x ∉ ks)
    (hK : k (h.set b (.map (es ++ [{ key := .int .i64 x, val := v, born := c }]) (c + 1)))) : mapU h (.map (some b)) (.int .i64) (.int .i64 x) v k := by
  refine ⟨es, c, hb, ?_⟩
  rw [(find_in (x := x) hk 0).2 hx]
  exact hK
/-- What is known in the midst. -/
structure VInv (h0 h : H) (b : Nat) (t : Value) (out : List Int) : Prop where
  own : Own h0 h t (Z out)
  map : ∃ es c, h b = some (.map es c) ∧ KeysAre es (out.map fun v => -1 - v) ∧ ∀ e ∈ es, ∃ x, e.val = .int .i64 x
  nb : Blk t ≠ some b
  h0b : h0 b = none
theorem mem_neg {out : List Int} {c : Int} : c ∈ (out.map fun v => -1 - v) ↔ (-1 - c) ∈ out := by
  rw [List.mem_map]
  constructor
  · rintro ⟨v, hv, rfl⟩
    have : -1 - (-1 - v) = v := by omega
    rw [this]; exact hv
  · intro h; exact ⟨_, h, by omega⟩
theorem spec57 (c : Cl57 D) : SpecVars D 57 := by
  intro s l h k kp q hk
  refine c _ _ _ _ ?_
  unfold F57
  have hq := q.len
  intro b hb
  have hE0 : Ext h (h.set b (.map [] 0)) := Ext.new hb
  rw [(q.ext hE0).len_]
  intro I hI
  have key : ∀ (n i : Nat) (t : Value) (out : List Int) (h1 : H), l.length - i ≤ n → i ≤ l.length → VInv h h1 b t out → out.length ≤ i → (∀ x ∈ out, inI x) → varsGo out (l.drop i) = vars l →
      I [.map (some b), t, s, .int .i64 ((l.length : Nat) : Int), .int .i64 (i : Int)] h1 := by
    intro n
    induction n with
    | zero =>
      intro i t out h1 hn hi o hol hor hv
      refine hI _ _ _ _ _ _ ?_
      unfold round57_4
      rw [intK_int, intK_int, cond_dec]
      refine ⟨fun hlt => by omega, fun _ => ?_⟩
      rw [List.drop_eq_nil_of_le (by omega)] at hv
      have hv : out = vars l := hv
      subst hv
      rw [xs_e]
      show cond (Nat.beq 0 0) _ _
      rw [nth0]
      exact hk _ _ ⟨o.own.row, by omega, hor⟩ o.own.ext
    | succ n ih =>
      intro i t out h1 hn hi o hol hor hv
      refine hI _ _ _ _ _ _ ?_
      unfold round57_4
      rw [intK_int, intK_int, cond_dec]
      refine ⟨fun hlt => ?_, fun _ => ?_⟩
      · refine (q.ext o.own.ext).at_ (by omega) (by omega) fun ad c hc hci hrd => ⟨c, hrd, ?_⟩
        rw [Int.toNat_natCast] at hc
        rw [(split_at hc).2.2, varsGo] at hv
        obtain ⟨es, cl, hbm, hke, hva⟩ := o.map
        refine ⟨es, cl, hbm, ?_⟩
        have hci' := hci
        unfold inI at hci'
        have next : ∀ (K : Kl) t' out' h2, VInv h h2 b t' out' → out'.length ≤ i + 1 → (∀ x ∈ out', inI x) → varsGo out' (l.drop (i + 1)) = vars l →
            j57_4_10 D I K (.map (some b)) t' s (.int .i64 ((l.length : Nat) : Int)) (.int .i64 (i : Int)) h2 := by
          intro K t' out' h2 o' hol' hor' hv'
          unfold j57_4_10
          rw [intK_int, intK_int, i64_id (by omega) (by omega)]
          exact ih (i + 1) t' out' h2 (by omega) (by omega) o' hol' hor' hv'
        have skip : ∀ K, ¬ (c < 0 ∧ (-1 - c) ∉ out) → j57_4_8 D I K (.map (some b)) t (.int .i64 (i : Int)) (.int .i64 c) s (.int .i64 ((l.length : Nat) : Int)) (.int .i64 (i : Int)) (.bool false) h1 := by
          intro K hno
          rw [if_neg hno] at hv
          unfold j57_4_8
          simp only [intK_int, boolW_bool, cond_false]
          exact next K t out h1 o (by omega) hor hv
        have add : ∀ K, (c < 0 ∧ (-1 - c) ∉ out) → j57_4_8 D I K (.map (some b)) t (.int .i64 (i : Int)) (.int .i64 c) s (.int .i64 ((l.length : Nat) : Int)) (.int .i64 (i : Int)) (.bool true) h1 := by
          intro K hyes
          rw [if_pos hyes] at hv
          unfold j57_4_8
          simp only [intK_int, boolW_bool, cond_true]
          refine mapU_new hbm hke (fun hm => hyes.2 (mem_neg.mp hm)) ?_
          rw [i64_id (n := -1 - c) (by omega) (by omega)]
          have hbut : ExtBut b h1 (h1.set b (.map (es ++ [{ key := .int .i64 c, val := .int .i64 (i : Int), born := cl }]) (cl + 1))) := ExtBut.set
          have o1 : Own h (h1.set b (.map (es ++ [{ key := .int .i64 c, val := .int .i64 (i : Int), born := cl }]) (cl + 1))) t (Z out) := o.own.but o.nb hbut (o.own.ext.set o.h0b)
          refine o1.push (by rw [Z_len]; omega) (by decide) rfl rfl (by decide) fun s' h2 o' hkeep hnew => ?_
          have e : Z out ++ [Value.int .i64 (-1 - c)] = Z (out ++ [-1 - c]) := by simp [Z]
          rw [e] at o'
          have hb2 := hkeep b _ o.nb set_here
          refine next K s' (out ++ [-1 - c]) h2 ⟨o', ⟨_, _, hb2, ?_, ?_⟩, ?_, o.h0b⟩ (by simp; omega) (fun x hx => ?_) hv
          · unfold KeysAre at hke ⊢
            rw [List.map_append, hke, List.map_append, List.map_append]
            have : -1 - (-1 - c) = c := by omega
            simp [this]
          · intro e he
            rcases List.mem_append.mp he with he | he
            · exact hva e he
            · simp only [List.mem_singleton] at he
              subst he; exact ⟨_, rfl⟩
          · intro hbb
            rcases hnew b hbb with h3 | h3
            · exact o.nb h3
            · rw [set_here] at h3; cases h3
          · rcases List.mem_append.mp hx with hx | hx
            · exact hor x hx
            · simp only [List.mem_singleton] at hx
              subst hx; unfold inI; omega
        refine look_rule hke (fun hm e he => ?_) (fun hm => ⟨0, rfl, ?_⟩)
        · obtain ⟨x, hx⟩ := hva e he
          refine ⟨x, hx, ?_⟩
          rw [cond_dec, Bool.not_true]
          have hno : ¬ (c < 0 ∧ (-1 - c) ∉ out) := fun h => h.2 (mem_neg.mp hm)
          exact ⟨fun _ => skip _ hno, fun _ => skip _ hno⟩
        · rw [cond_dec, Bool.not_false]
          exact ⟨fun hneg => add _ ⟨hneg, fun h => hm (mem_neg.mpr h)⟩, fun hpos => skip _ fun h => hpos h.1⟩
      · rw [List.drop_eq_nil_of_le (by omega)] at hv
        have hv : out = vars l := hv
        subst hv
        rw [xs_e]
        show cond (Nat.beq 0 0) _ _
        rw [nth0]
        exact hk _ _ ⟨o.own.row, by omega, hor⟩ o.own.ext
  refine key l.length 0 _ [] _ (by omega) (by omega) ⟨Own.nil_ hE0, ⟨[], 0, set_here, rfl, by simp⟩, by rw [Blk_nil]; simp, hb⟩ (by simp) (by simp) (by simp [vars])
end Go.Proofs.YtnlhnlmnlfmojaaDoor.Am

namespace Go.Proofs.YtnlhnlmnlfmojaaDoor.Am
open Go Go.Proofs Sys Go.Lib
set_option linter.unusedVariables false
set_option linter.unusedSimpArgs false
set_option maxRecDepth 100000
variable {D : Orc} {T : H → Prop}

theorem wr_cell {h : H} {b i : Nat} {l : List Value} {v : Value} (hb : h b = some (.cells l)) (hi : i < l.length) : wr1 h (Addr.add ⟨b, 0, none⟩ i) v = some (h.set b (.cells (l.set i v))) := by
  rw [add_at, Nat.zero_add]
  simp only [wr1, hb]
  rw [if_pos hi]
theorem nn_ptr {a : Addr} : nonNil (.pointer (some a)) = true := rfl
theorem exI {φ : Value → Prop} : exR Tryd.prog (resTypes Tryd.prog 3) φ = ∃ x : Int, φ (.int .i64 x) := by kernel_rfl
theorem meth_leaf : methF Tryd.prog 133 "lodestone/term.size" = some 136 := by kernel_rfl
theorem meth_inner : methF Tryd.prog 103 "lodestone/term.size" = some 135 := by kernel_rfl
theorem body135 : hasBody Tryd.prog 135 = true := by kernel_rfl
theorem body136 : hasBody Tryd.prog 136 = true := by kernel_rfl
theorem size_leaf (c : Cl136 D) {x : Int} {h : H} {k : Kv} {kp : Kp} (hk : k (.int .i64 1) h) : invW Tryd.prog D 3 (.iface 133 (.int .i64 x)) "lodestone/term.size" [] h k kp := by
  unfold invW
  simp only [meth_leaf]
  unfold callW
  rw [body136]
  simp only [exI]
  refine c _ _ _ _ ?_
  unfold F136
  rw [intK_int]
  exact ⟨_, rfl, hk⟩
theorem size_inner (c : Cl135 D) {b : Nat} {a n : Int} {s : Value} {h : H} {k : Kv} {kp : Kp} (hb : h b = some (.cells [.int .i64 a, .int .i64 n, s])) (hk : k (.int .i64 n) h) : invW Tryd.prog D 3 (.iface 103 (.pointer (some ⟨b, 0, none⟩))) "lodestone/term.size" [] h k kp := by
  unfold invW
  simp only [meth_inner]
  unfold callW
  rw [body135]
  simp only [exI]
  refine c _ _ _ _ ?_
  unfold F135
  rw [ptrW_ptr]
  exact ⟨nn_ptr, n, rd_cell (i := 1) hb rfl, _, rfl, hk⟩
/-- A node of a tree, of so many codes; new to h. -/
def NodeSz (h h' : H) (v : Value) (n : Nat) : Prop := (∃ x, v = .iface 133 (.int .i64 x) ∧ n = 1) ∨
  ∃ b a s, v = .iface 103 (.pointer (some ⟨b, 0, none⟩)) ∧ h b = none ∧ h' b = some (.cells [.int .i64 a, .int .i64 ((n : Nat) : Int), s])
def ReadPost (b : Nat) (sg tt : Value) (sig : List Sy) (l : List Int) (at_ : Nat) (bad : Int) (h : H) (v : Value) (h' : H) : Prop :=
  ∃ (at' : Nat) (bad' : Int) (n : Nat), h' b = some (.cells [sg, tt, .int .i64 ((at' : Nat) : Int), .int .i64 bad']) ∧ ExtBut b h h' ∧ NodeSz h h' v n ∧ 1 ≤ n ∧ n ≤ 9 * (at' - at_) + 1 ∧ at_ ≤ at' ∧ at' ≤ l.length ∧
    (bad ≠ 0 → bad' = bad ∧ at' = at_) ∧ (bad = 0 → bad' = (eat (S2 sig) 1 (l.drop at_)).1 ∧ (bad' = 0 → l.drop at' = (eat (S2 sig) 1 (l.drop at_)).2))
def SpecRead (D : Orc) (m : Nat) : Prop := ∀ (b : Nat) (sg tt : Value) (sig : List Sy) (l : List Int) (at_ : Nat) (bad : Int) (h : H) (k : Kv) kp, l.length - at_ ≤ m → at_ ≤ l.length →
  h b = some (.cells [sg, tt, .int .i64 ((at_ : Nat) : Int), .int .i64 bad]) → Sr h sg sig → ArOk sig → Ir h tt l → Off b sg → Off b tt → (∀ v h', ReadPost b sg tt sig l at_ bad h v h' → k v h') → D 90 [.pointer (some ⟨b, 0, none⟩)] h k kp
def hide (h : H) (b : Nat) : H := fun d => if d = b then none else h d
theorem hide_ext {h h' : H} {b : Nat} (e : ExtBut b h h') : Ext (hide h b) h' := fun d o hd => by
  unfold hide at hd
  split at hd
  · cases hd
  · rename_i hne; exact e d o hne hd
theorem hide_none {h : H} {b d : Nat} (hd : hide h b d = none) (hne : d ≠ b) : h d = none := by
  unfold hide at hd
  rw [if_neg hne] at hd; exact hd
theorem Row.blk_known {h : H} {s : Value} {vs : List Value} (r : Row h s vs) {d : Nat} (hd : h d = none) : Blk s ≠ some d := fun hb => r.known hb hd
/-- The loop over a symbol's arguments. -/
theorem read_loop (c135 : Cl135 D) (c136 : Cl136 D) {m : Nat} (ih : SpecRead D m) {b cb : Nat} {sg tt : Value} {sig : List Sy} {l : List Int} {at_ ar : Nat} {h : H} (hm : l.length - at_ ≤ m + 1) (har : ar ≤ 8) (hcb0 : h cb = none)
    (r : Sr h sg sig) (ha : ArOk sig) (q : Ir h tt l) (os : Off b sg) (ot : Off b tt) {K : Kl} {I : List Value → H → Prop} (hI : ∀ a0 a1 a2 a3 h, round90_16 D I K a0 a1 a2 a3 h → I [a0, a1, a2, a3] h) (hne : b ≠ cb)
    (hK : ∀ (h' : H) (at' : Nat) (bad' : Int) (n : Nat) (s : Value), h' b = some (.cells [sg, tt, .int .i64 ((at' : Nat) : Int), .int .i64 bad']) → h' cb = some (.cells [.int .i64 (at_ : Int), .int .i64 ((n : Nat) : Int), s]) → ExtBut b h h' →
      1 ≤ n → n ≤ 9 * (at' - at_) + 1 → at_ < at' → at' ≤ l.length → bad' = (eat (S2 sig) ar (l.drop (at_ + 1))).1 → (bad' = 0 → l.drop at' = (eat (S2 sig) ar (l.drop (at_ + 1))).2) → K (.e 2) [.pointer (some ⟨cb, 0, none⟩)] h') :
    ∀ (d j at' : Nat) (bad' : Int) (n : Nat) (s : Value) (vs : List Value) (h1 : H), ar - j ≤ d → j ≤ ar → h1 b = some (.cells [sg, tt, .int .i64 ((at' : Nat) : Int), .int .i64 bad']) → h1 cb = some (.cells [.int .i64 (at_ : Int), .int .i64 ((n : Nat) : Int), s]) →
      Own (hide h b) h1 s vs → vs.length = j → Blk s ≠ some b → Blk s ≠ some cb → ExtBut b h h1 → 1 ≤ n → n ≤ 9 * (at' - at_ - 1) + j + 1 → at_ < at' → at' ≤ l.length →
      (bad' = 0 → eat (S2 sig) (ar - j) (l.drop at') = eat (S2 sig) ar (l.drop (at_ + 1))) → (bad' ≠ 0 → (eat (S2 sig) ar (l.drop (at_ + 1))).1 = bad') →
      I [.pointer (some ⟨b, 0, none⟩), .pointer (some ⟨cb, 0, none⟩), .int .i64 ((ar : Nat) : Int), .int .i64 ((j : Nat) : Int)] h1 := by
  have hq := q.len
  intro d
  induction d with
  | zero =>
    intro j at' bad' n s vs h1 hd hj hb hc o hvs nb ncb he hn1 hn hat hlen h0 hne0
    refine hI _ _ _ _ _ ?_
    unfold round90_16
    rw [intK_int, intK_int, cond_dec]
    refine ⟨fun hlt => by omega, fun _ => ?_⟩
    have hj' : j = ar := by omega
    subst hj'
    rw [Nat.sub_self] at h0
    refine hK h1 at' bad' n s hb hc he hn1 (by omega) hat hlen ?_ ?_
    · by_cases hb0 : bad' = 0
      · rw [← h0 hb0]
        have : eat (S2 sig) 0 (l.drop at') = (0, l.drop at') := by cases l.drop at' <;> rfl
        rw [this, hb0]
      · exact (hne0 hb0).symm
    · intro hb0
      rw [← h0 hb0]
      have : eat (S2 sig) 0 (l.drop at') = (0, l.drop at') := by cases l.drop at' <;> rfl
      rw [this]
  | succ d ihd =>
    intro j at' bad' n s vs h1 hd hj hb hc o hvs nb ncb he hn1 hn hat hlen h0 hne0
    refine hI _ _ _ _ _ ?_
    unfold round90_16
    rw [intK_int, intK_int, cond_dec]
    refine ⟨fun hlt => ?_, fun hge => ?_⟩
    · have hjar : j < ar := by omega
      refine ih b sg tt sig l at' bad' h1 _ _ (by omega) hlen hb (r.but os he) ha (q.but ot he) os ot fun v h2 hp => ⟨_, rfl, ?_⟩
      obtain ⟨at2, bad2, n2, hb2, he2, hsz, hn21, hn2, hat2, hlen2, p1, p2⟩ := hp
      have hc2 := he2 cb _ (Ne.symm hne) hc
      have he12 := he.trans he2
      refine ⟨nn_ptr, ?_⟩
      rw [ptrW_ptr]
      refine ⟨s, rd_cell (i := 2) hc2 rfl, ?_⟩
      have o2 : Own (hide h b) h2 s vs := o.but nb he2 (hide_ext he12)
      have hvone : one v = true := by rcases hsz with ⟨x, rfl, _⟩ | ⟨nbk, a, s2, rfl, _⟩ <;> rfl
      refine o2.push (z := .nilIface) (by omega) (by decide) hvone hvone (by decide) fun s3 h3 o3 hkeep hnew => ?_
      have hb3 := hkeep b _ nb hb2
      have hc3 := hkeep cb _ ncb hc2
      refine ⟨nn_ptr, ?_⟩
      rw [ptrW_ptr]
      have hs3one : one s3 = true := by
        have := o3.row.isSl
        cases s3 <;> first | exact this.elim | rfl
      refine ⟨hs3one, by trivial, _, wr_cell hc3 (show 2 < 3 by decide), ?_⟩
      have hset1 : ([Value.int .i64 (at_ : Int), .int .i64 ((n : Nat) : Int), s].set 2 s3) = [Value.int .i64 (at_ : Int), .int .i64 ((n : Nat) : Int), s3] := rfl
      rw [hset1]
      generalize hh4 : h3.set cb (.cells [Value.int .i64 (at_ : Int), .int .i64 ((n : Nat) : Int), s3]) = h4
      have hc4 : h4 cb = some (.cells [Value.int .i64 (at_ : Int), .int .i64 ((n : Nat) : Int), s3]) := by rw [← hh4]; exact set_here
      have hb4 : h4 b = some (.cells [sg, tt, .int .i64 ((at2 : Nat) : Int), .int .i64 bad2]) := by rw [← hh4, set_away hne]; exact hb3
      refine ⟨nn_ptr, ?_⟩
      rw [ptrW_ptr]
      refine ⟨_, rd_cell (i := 1) hc4 rfl, ?_⟩
      have ncb3 : Blk s3 ≠ some cb := fun x => by
        rcases hnew cb x with h5 | h5
        · exact ncb h5
        · rw [hc2] at h5; cases h5
      have nb3 : Blk s3 ≠ some b := fun x => by
        rcases hnew b x with h5 | h5
        · exact nb h5
        · rw [hb2] at h5; cases h5
      have he23 : ∀ e x, e ≠ b → e ≠ cb → h e = some x → h4 e = some x := fun e x h5 h6 h7 => by
        rw [← hh4, set_away h6]
        refine hkeep e x (fun hbk => ?_) (he12 e x h5 h7)
        have := o2.blk e hbk
        have := hide_none this h5
        rw [this] at h7; cases h7
      have end_ : (rd h4 (Addr.add ⟨cb, 0, none⟩ 1) = some (Value.int .i64 ((n : Nat) : Int))) ∧ intK .i64 (.int .i64 ((n2 : Nat) : Int)) (fun x59 => nonNil (.pointer (some ⟨cb, 0, none⟩)) = true ∧ ptrW (.pointer (some ⟨cb, 0, none⟩)) (fun ad60 => one (Value.int IntKind.i64 (IntKind.wrap IntKind.i64 (((n : Nat) : Int) + x59))) = true ∧ 1 = 1 ∧ ∃ h61, wr1 h4 (Addr.add ad60 1) (Value.int IntKind.i64 (IntKind.wrap IntKind.i64 (((n : Nat) : Int) + x59))) = some h61 ∧ I [.pointer (some ⟨b, 0, none⟩), .pointer (some ⟨cb, 0, none⟩), (Value.int IntKind.i64 ((ar : Nat) : Int)), (Value.int IntKind.i64 (IntKind.wrap IntKind.i64 (((j : Nat) : Int) + (1 : Int))))] h61)) := by
        refine ⟨rd_cell (i := 1) hc4 rfl, ?_⟩
        rw [intK_int]
        refine ⟨nn_ptr, ?_⟩
        rw [ptrW_ptr]
        refine ⟨rfl, by trivial, _, wr_cell hc4 (show 1 < 3 by decide), ?_⟩
        have hw : IntKind.wrap .i64 (((n : Nat) : Int) + ((n2 : Nat) : Int)) = ((n + n2 : Nat) : Int) := by rw [i64_id (by omega) (by omega)]; omega
        have hset2 : ([Value.int .i64 (at_ : Int), .int .i64 ((n : Nat) : Int), s3].set 1 (.int .i64 ((n + n2 : Nat) : Int))) = [Value.int .i64 (at_ : Int), .int .i64 ((n + n2 : Nat) : Int), s3] := rfl
        have hj1 : IntKind.wrap .i64 (((j : Nat) : Int) + 1) = ((j + 1 : Nat) : Int) := by rw [i64_id (by omega) (by omega)]; omega
        rw [hw, hset2, hj1]
        have hbut4 : ExtBut cb h3 (h4.set cb (.cells [Value.int .i64 (at_ : Int), .int .i64 ((n + n2 : Nat) : Int), s3])) := fun e x h5 h6 => by
          rw [set_away h5, ← hh4, set_away h5]; exact h6
        have hext5 : ExtBut b h (h4.set cb (.cells [Value.int .i64 (at_ : Int), .int .i64 ((n + n2 : Nat) : Int), s3])) := fun e x h5 h6 => by
          have h7 : e ≠ cb := fun h8 => by rw [h8, hcb0] at h6; cases h6
          rw [set_away h7]; exact he23 e x h5 h7 h6
        have o5 := o3.but ncb3 hbut4 (hide_ext hext5)
        refine ihd (j + 1) at2 bad2 (n + n2) s3 (vs ++ [v]) _ (by omega) (by omega) (by rw [set_away hne]; exact hb4) set_here o5 (by simp [hvs]) nb3 ncb3 hext5 (by omega) (by omega) (by omega) hlen2 ?_ ?_
        · intro hb20
          by_cases hb0 : bad' = 0
          · obtain ⟨p3, p4⟩ := p2 hb0
            rw [p4 hb20, ← h0 hb0, show ar - j = 1 + (ar - (j + 1)) by omega, eat_add, if_pos (by rw [← p3]; exact hb20)]
          · rw [(p1 hb0).1] at hb20; exact absurd hb20 hb0
        · intro hb20
          by_cases hb0 : bad' = 0
          · obtain ⟨p3, p4⟩ := p2 hb0
            rw [← h0 hb0, show ar - j = 1 + (ar - (j + 1)) by omega, eat_add, if_neg (by rw [← p3]; exact hb20)]
            exact p3.symm
          · rw [(p1 hb0).1]; exact hne0 hb0
      rcases hsz with ⟨x, rfl, rfl⟩ | ⟨nbk, a, s2, rfl, hfresh, hnb⟩
      · exact size_leaf c136 end_
      · have hd1 : Blk s ≠ some nbk := o.row.blk_known hfresh
        have hd2 : nbk ≠ cb := fun x => by rw [x, hc] at hfresh; cases hfresh
        have : h4 nbk = some (.cells [.int .i64 a, .int .i64 ((n2 : Nat) : Int), s2]) := by
          rw [← hh4, set_away hd2]; exact hkeep nbk _ hd1 hnb
        exact size_inner c135 this end_
    · have hj' : j = ar := by omega
      subst hj'
      rw [Nat.sub_self] at h0
      refine hK h1 at' bad' n s hb hc he hn1 (by omega) hat hlen ?_ ?_
      · by_cases hb0 : bad' = 0
        · rw [← h0 hb0]
          have : eat (S2 sig) 0 (l.drop at') = (0, l.drop at') := by cases l.drop at' <;> rfl
          rw [this, hb0]
        · exact (hne0 hb0).symm
      · intro hb0
        rw [← h0 hb0]
        have : eat (S2 sig) 0 (l.drop at') = (0, l.drop at') := by cases l.drop at' <;> rfl
        rw [this]
end Go.Proofs.YtnlhnlmnlfmojaaDoor.Am

namespace Go.Proofs.YtnlhnlmnlfmojaaDoor.Am
open Go Go.Proofs Sys Go.Lib
set_option linter.unusedVariables false
set_option linter.unusedSimpArgs false
set_option maxRecDepth 100000
variable {D : Orc} {T : H → Prop}

theorem eat_one {sig : List Sy} {l : List Int} {i : Nat} {c : Int} (hc : l[i]? = some c) : eat (S2 sig) 1 (l.drop i) = if badC sig.length c then (30, l.drop i) else eat (S2 sig) (kids (S2 sig) c) (l.drop (i + 1)) := by
  have hd := (split_at hc).2.2
  rw [hd]
  conv => lhs; unfold eat
  rw [S2_len, Nat.zero_add]
theorem rd_step (c : Cl90 D) (c135 : Cl135 D) (c136 : Cl136 D) (m : Nat) (ih : ∀ m', m = m' + 1 → SpecRead D m') : SpecRead D m := by
  intro b sg tt sig l at_ bad h k kp hm hle hb r ha q os ot hk
  have hq := q.len
  have hsl := r.len
  refine c _ _ _ _ ?_
  unfold F90
  rw [ptrW_ptr]
  refine ⟨nn_ptr, bad, rd_cell (i := 3) hb rfl, ?_⟩
  rw [cond_ne]
  refine ⟨fun hne => ?_, fun h0 => ?_⟩
  · refine hk _ _ ⟨at_, bad, 1, hb, ExtBut.refl b h, .inl ⟨0, rfl, rfl⟩, by omega, by omega, by omega, hle, fun _ => ⟨rfl, rfl⟩, fun h0 => absurd h0 hne⟩
  · subst h0
    refine ⟨nn_ptr, ?_⟩
    rw [ptrW_ptr]
    refine ⟨_, rd_cell (i := 2) hb rfl, nn_ptr, ?_⟩
    rw [ptrW_ptr]
    refine ⟨tt, rd_cell (i := 1) hb rfl, ?_⟩
    rw [q.len_, cond_eq]
    refine ⟨fun heq => ?_, fun hlt => ?_⟩
    · have hal : at_ = l.length := by omega
      refine ⟨nn_ptr, ?_⟩
      rw [ptrW_ptr]
      refine ⟨rfl, by trivial, _, wr_cell hb (show 3 < 4 by decide), ?_⟩
      have hset : ([sg, tt, Value.int .i64 ((at_ : Nat) : Int), Value.int .i64 0].set 3 (.int .i64 31)) = [sg, tt, Value.int .i64 ((at_ : Nat) : Int), Value.int .i64 31] := rfl
      rw [hset]
      have he : eat (S2 sig) 1 (l.drop at_) = (31, []) := by rw [List.drop_eq_nil_of_le (by omega)]; rfl
      refine hk _ _ ⟨at_, 31, 1, set_here, ExtBut.set, .inl ⟨0, rfl, rfl⟩, by omega, by omega, by omega, hle, fun h => absurd rfl h, fun _ => ?_⟩
      rw [he]; exact ⟨rfl, fun h => by simp at h⟩
    · refine ⟨nn_ptr, ?_⟩
      rw [ptrW_ptr]
      refine ⟨tt, rd_cell (i := 1) hb rfl, nn_ptr, ?_⟩
      rw [ptrW_ptr]
      refine ⟨_, rd_cell (i := 2) hb rfl, ?_⟩
      refine q.at_ (by omega) (by omega) fun ad x hx hxi hrd => ⟨x, hrd, nn_ptr, ?_⟩
      rw [Int.toNat_natCast] at hx
      rw [ptrW_ptr]
      refine ⟨sg, rd_cell (i := 0) hb rfl, ?_⟩
      rw [r.row.len, sgRow_len]
      have he := eat_one (sig := sig) hx
      have eight : ∀ t : Bool, t = badC sig.length x → j90__8 D k kp (.pointer (some ⟨b, 0, none⟩)) (.int .i64 x) (.bool t) h := by
        intro t ht
        unfold j90__8
        simp only [intK_int, boolW_bool]
        rw [← ht] at he
        cases t with
        | true =>
          rw [cond_true]
          rw [if_pos rfl] at he
          refine ⟨nn_ptr, ?_⟩
          rw [ptrW_ptr]
          refine ⟨rfl, by trivial, _, wr_cell hb (show 3 < 4 by decide), ?_⟩
          have hset : ([sg, tt, Value.int .i64 ((at_ : Nat) : Int), Value.int .i64 0].set 3 (.int .i64 30)) = [sg, tt, Value.int .i64 ((at_ : Nat) : Int), Value.int .i64 30] := rfl
          rw [hset]
          refine hk _ _ ⟨at_, 30, 1, set_here, ExtBut.set, .inl ⟨0, rfl, rfl⟩, by omega, by omega, by omega, hle, fun h => absurd rfl h, fun _ => ?_⟩
          rw [he]; exact ⟨rfl, fun h => by simp at h⟩
        | false =>
          rw [cond_false, cond_dec]
          rw [if_neg (by simp)] at he
          have hxr : -1048576 ≤ x ∧ x < sig.length := by
            have ht := ht.symm
            simp only [badC, Bool.or_eq_false_iff, decide_eq_false_iff_not] at ht
            omega
          have hw1 : IntKind.wrap .i64 (((at_ : Nat) : Int) + 1) = ((at_ + 1 : Nat) : Int) := by rw [i64_id (by omega) (by omega)]; omega
          have hset2 : ([sg, tt, Value.int .i64 ((at_ : Nat) : Int), Value.int .i64 0].set 2 (.int .i64 ((at_ + 1 : Nat) : Int))) = [sg, tt, Value.int .i64 ((at_ + 1 : Nat) : Int), Value.int .i64 0] := rfl
          refine ⟨fun hneg => ?_, fun hpos => ?_⟩
          · refine ⟨nn_ptr, ?_⟩
            rw [ptrW_ptr]
            refine ⟨_, rd_cell (i := 2) hb rfl, nn_ptr, ?_⟩
            rw [ptrW_ptr]
            rw [hw1]
            refine ⟨rfl, by trivial, _, wr_cell hb (show 2 < 4 by decide), ?_⟩
            rw [hset2]
            rw [kids_neg hneg] at he
            have he0 : eat (S2 sig) 0 (l.drop (at_ + 1)) = (0, l.drop (at_ + 1)) := by cases l.drop (at_ + 1) <;> rfl
            rw [he0] at he
            refine hk _ _ ⟨at_ + 1, 0, 1, set_here, ExtBut.set, .inl ⟨_, rfl, rfl⟩, by omega, by omega, by omega, by omega, fun h => absurd rfl h, fun _ => ?_⟩
            rw [he]; exact ⟨rfl, fun _ => rfl⟩
          · refine ⟨nn_ptr, ?_⟩
            rw [ptrW_ptr]
            refine ⟨_, rd_cell (i := 2) hb rfl, rfl, by decide, rfl, by decide, ?_⟩
            intro cb hcb
            have hne : b ≠ cb := fun x => by rw [← x, hb] at hcb; cases hcb
            have hb1 : (h.set cb (.cells [Value.int .i64 ((at_ : Nat) : Int), .int .i64 1, .slice none 0 0])) b = some (.cells [sg, tt, .int .i64 ((at_ : Nat) : Int), .int .i64 0]) := by rw [set_away hne]; exact hb
            refine ⟨nn_ptr, ?_⟩
            rw [ptrW_ptr]
            refine ⟨_, rd_cell (i := 2) hb1 rfl, nn_ptr, ?_⟩
            rw [ptrW_ptr, hw1]
            refine ⟨rfl, by trivial, _, wr_cell hb1 (show 2 < 4 by decide), ?_⟩
            rw [hset2]
            generalize hh2 : ((h.set cb (.cells [Value.int .i64 ((at_ : Nat) : Int), .int .i64 1, .slice none 0 0])).set b (.cells [sg, tt, Value.int .i64 ((at_ + 1 : Nat) : Int), Value.int .i64 0])) = h2
            have hb2 : h2 b = some (.cells [sg, tt, Value.int .i64 ((at_ + 1 : Nat) : Int), Value.int .i64 0]) := by rw [← hh2]; exact set_here
            have hc2 : h2 cb = some (.cells [Value.int .i64 ((at_ : Nat) : Int), .int .i64 1, .slice none 0 0]) := by rw [← hh2, set_away (Ne.symm hne)]; exact set_here
            have he2 : ExtBut b h h2 := fun e o h1 h3 => by
              have h4 : e ≠ cb := fun h5 => by rw [h5, hcb] at h3; cases h3
              rw [← hh2, set_away h1, set_away h4]; exact h3
            refine ⟨nn_ptr, ?_⟩
            rw [ptrW_ptr]
            refine ⟨sg, rd_cell (i := 0) hb2 rfl, ?_⟩
            refine (r.but os he2).row.at_ (by omega) (by rw [sgRow_len]; omega) fun ad2 v hv _ hj => ?_
            obtain ⟨y, hy, rfl⟩ := sgRow_at hv
            refine ⟨y.2, hj 1 _ rfl, ?_⟩
            have hay := ha y (List.mem_of_getElem? hy)
            have hkid := kids_of (sig := sig) (by omega) hy
            rw [hkid] at he
            obtain ⟨m', rfl⟩ : ∃ m', m = m' + 1 := ⟨m - 1, by omega⟩
            intro I hI
            have e8 : (y.2 : Int) = ((y.2.toNat : Nat) : Int) := by omega
            rw [e8]
            refine read_loop c135 c136 (ih m' rfl) (at_ := at_) (ar := y.2.toNat) hm (by omega) hcb r ha q os ot hI hne (fun h' at' bad' n s g1 g2 g3 g4 g5 g6 g7 g8 g9 => ?_) y.2.toNat 0 (at_ + 1) 0 1 (.slice none 0 0) [] h2 (by omega) (by omega) hb2 hc2
              (Own.nil_ (hide_ext he2)) rfl (by rw [Blk_nil]; simp) (by rw [Blk_nil]; simp) he2 (by omega) (by omega) (by omega) (by omega) (fun _ => by rw [Nat.sub_zero]) (fun h => absurd rfl h)
            rw [xs_e]
            show cond (Nat.beq 2 2) _ _
            rw [nth0, show Nat.beq 2 2 = true from rfl, cond_true]
            refine hk _ _ ⟨at', bad', n, g1, g3, .inr ⟨cb, _, s, rfl, hcb, g2⟩, g4, g5, by omega, g7, fun h => absurd rfl h, fun _ => ?_⟩
            rw [he]
            exact ⟨g8, g9⟩
      rw [cond_not, cond_dec]
      refine ⟨fun hge => eight true ?_, fun hlt2 => eight _ ?_⟩
      · simp only [badC, Bool.true_eq, Bool.or_eq_true, decide_eq_true_eq]; omega
      · have : decide ((sig.length : Int) ≤ x) = false := decide_eq_false (by omega)
        unfold badC
        rw [this, Bool.false_or]
theorem readA (c : Cl90 D) (c135 : Cl135 D) (c136 : Cl136 D) : ∀ m, SpecRead D m := by
  intro m
  induction m with
  | zero => exact rd_step c c135 c136 0 (fun m h => by omega)
  | succ m ih =>
    refine rd_step c c135 c136 (m + 1) fun m' h => ?_
    obtain rfl : m' = m := by omega
    exact ih

/-- What the program tells of a row over a signature that may be. -/
def SpecGrown (D : Orc) : Prop := ∀ s t sig l h (k : Kv) kp, Sr h s sig → ArOk sig → Ir h t l → (∀ v h', Ext h h' → k (.tuple #[v, .int .i64 (scan (S2 sig) 1 l)]) h') → D 78 [s, t] h k kp
theorem sl_one {s : Value} (h : isSl s) : one s = true := by cases s <;> first | exact h.elim | rfl
theorem spec78 (c : Cl78 D) (c90 : Cl90 D) (c135 : Cl135 D) (c136 : Cl136 D) : SpecGrown D := by
  intro s t sig l h k kp r ha q hk
  refine c _ _ _ _ _ ?_
  unfold F78
  have hq := q.len
  refine ⟨sl_one r.row.isSl, by decide, sl_one q.row.isSl, by decide, ?_⟩
  intro b hb
  have e1 : Ext h (h.set b (.cells [s, t, .int .i64 0, .int .i64 0])) := Ext.new hb
  have hb1 : (h.set b (.cells [s, t, .int .i64 0, .int .i64 0])) b = some (.cells [s, t, .int .i64 (((0 : Nat) : Nat) : Int), .int .i64 0]) := set_here
  refine readA c90 c135 c136 l.length b s t sig l 0 0 _ _ _ (by omega) (by omega) hb1 (r.ext e1) ha (q.ext e1) (r.row.off hb) (q.row.off hb) fun v h2 hp => ⟨_, rfl, ?_⟩
  obtain ⟨at', bad', n, hb2, he2, _, _, _, _, hle, _, p2⟩ := hp
  obtain ⟨p3, p4⟩ := p2 rfl
  rw [List.drop_zero] at p3 p4
  have hE : Ext h h2 := fun d o hd => he2 d o (fun x => by rw [x, hb] at hd; cases hd) (e1 d o hd)
  have hsc := scan_eat (S2 sig) l 1
  refine ⟨nn_ptr, ?_⟩
  rw [ptrW_ptr]
  refine ⟨_, rd_cell (i := 3) hb2 rfl, ?_⟩
  have five : ∀ (e : Int) h3, Ext h h3 → h3 b = some (.cells [s, t, .int .i64 (at' : Int), .int .i64 e]) → e = scan (S2 sig) 1 l → j78__5 D k kp (.pointer (some ⟨b, 0, none⟩)) v h3 := by
    intro e h3 he3 hb3 hs
    unfold j78__5
    rw [ptrW_ptr]
    refine ⟨nn_ptr, _, rd_cell (i := 3) hb3 rfl, ?_⟩
    rw [hs]
    exact hk v h3 he3
  rw [cond_eq]
  refine ⟨fun h0 => ?_, fun hne => ?_⟩
  · refine ⟨nn_ptr, ?_⟩
    rw [ptrW_ptr]
    refine ⟨_, rd_cell (i := 2) hb2 rfl, ?_⟩
    rw [(q.ext hE).len_]
    have hdrop := p4 h0
    rw [h0] at p3 hb2
    rw [if_pos p3.symm] at hsc
    unfold j78__4
    rw [boolW_bool, cond_dec]
    refine ⟨fun hlt => ?_, fun hge => ?_⟩
    · refine ⟨nn_ptr, ?_⟩
      rw [ptrW_ptr]
      refine ⟨rfl, by trivial, _, wr_cell hb2 (show 3 < 4 by decide), ?_⟩
      have hset : ([s, t, Value.int .i64 ((at' : Nat) : Int), Value.int .i64 0].set 3 (.int .i64 32)) = [s, t, Value.int .i64 ((at' : Nat) : Int), Value.int .i64 32] := rfl
      rw [hset]
      refine five 32 _ (hE.set hb) set_here ?_
      rw [hsc, if_neg]
      rw [← hdrop]
      intro hn
      have := congrArg List.length hn
      rw [List.length_drop] at this
      simp at this; omega
    · refine five 0 h2 hE hb2 ?_
      rw [hsc, if_pos]
      rw [← hdrop]
      exact List.drop_eq_nil_of_le (by omega)
  · unfold j78__4
    rw [boolW_bool, cond_false]
    refine five bad' h2 hE hb2 ?_
    rw [hsc, if_neg (by rw [← p3]; exact hne)]
    exact p3
def SpecRight (D : Orc) (f : Nat) : Prop := ∀ s t sig l h (k : Kv) kp, Sr h s sig → ArOk sig → Ir h t l → (∀ h', Ext h h' → k (.int .i64 (scan (S2 sig) 1 l)) h') → D f [s, t] h k kp
theorem spec56 (c : Cl56 D) (g : SpecGrown D) : SpecRight D 56 := by
  intro s t sig l h k kp r ha q hk
  refine c _ _ _ _ _ ?_
  unfold F56
  exact g _ _ _ _ _ _ _ r ha q fun v h' e => ⟨_, _, rfl, hk h' e⟩
/-- What is wrong with a signature and a row over it. -/
def chkTerm (sig : List Sy) (l : List Int) : Int := if chkSig sig ≠ 0 then chkSig sig else scan (S2 sig) 1 l
def SpecCheck (D : Orc) (f : Nat) (T : H → Prop) : Prop := ∀ s t sig l h (k : Kv) kp, Sr h s sig → T h → Ir h t l → (∀ h', Ext h h' → k (.int .i64 (chkTerm sig l)) h') → D f [s, t] h k kp
theorem spec66 (hT : Stays T) (c : Cl66 D) (c83 : Cl83 D) (s44 : SpecSig D 44 T) (g : SpecGrown D) : SpecCheck D 66 T := by
  intro s t sig l h k kp r ht q hk
  refine c _ _ _ _ _ ?_
  unfold F66
  refine c83 _ _ _ _ _ ?_
  unfold F83
  refine s44 _ _ _ _ _ r ht fun h1 e1 => ⟨_, rfl, ?_⟩
  rw [cond_ne]
  refine ⟨fun hne => ⟨_, _, rfl, ?_⟩, fun h0 => ?_⟩
  · have := hk h1 e1
    unfold chkTerm at this
    rw [if_pos hne] at this
    exact this
  · refine g _ _ _ _ _ _ _ (r.ext e1) (ar_of h0) (q.ext e1) fun v h2 e2 => ⟨_, _, rfl, _, _, rfl, ?_⟩
    have := hk h2 (e1.trans e2)
    unfold chkTerm at this
    rw [if_neg (by simpa using h0)] at this
    exact this
theorem spec69 (hT : Stays T) (c : Cl69 D) (s58 : SpecSig D 58 T) (g : SpecTerm D 60) : SpecCheck D 69 T := by
  intro s t sig l h k kp r ht q hk
  refine c _ _ _ _ _ ?_
  unfold F69
  refine s58 _ _ _ _ _ r ht fun h1 e1 => ⟨_, rfl, ?_⟩
  rw [cond_ne]
  have hk1 := hk h1 e1
  unfold chkTerm at hk1
  refine ⟨fun hne => ?_, fun h0 => ?_⟩
  · rw [if_pos hne] at hk1
    exact hk1
  · rw [if_neg (by simpa using h0)] at hk1
    exact g _ _ _ _ _ _ _ (r.ext e1) (ar_of h0) (q.ext e1) ⟨_, rfl, hk1⟩
end Go.Proofs.YtnlhnlmnlfmojaaDoor.Am

namespace Go.Proofs.YtnlhnlmnlfmojaaDoor.Am
open Go Go.Proofs Sys Go.Lib
set_option linter.unusedVariables false
set_option linter.unusedSimpArgs false
set_option maxRecDepth 100000
variable {D : Orc} {T : H → Prop}

abbrev Ru := List Int × List Int
/-- What is wrong with a rule, over a signature that may be. -/
def ruleE (sig : List Sy) (r : Ru) : Int := if scan (S2 sig) 1 r.1 ≠ 0 then scan (S2 sig) 1 r.1 else if scan (S2 sig) 1 r.2 ≠ 0 then scan (S2 sig) 1 r.2 else
  if 512 < r.1.length ∨ 512 < r.2.length then 2 else if r.1.headD 0 < 0 then 71 else if (vars r.2).all (fun v => decide (v ∈ vars r.1)) then 0 else 72
def SpecRule (D : Orc) (f : Nat) : Prop := ∀ s v w sig (r : Ru) h (k : Kv) kp, Sr h s sig → ArOk sig → Ir h v r.1 → Ir h w r.2 → (∀ h', Ext h h' → k (.int .i64 (ruleE sig r)) h') → D f [s, .agg #[v, w]] h k kp
/-- All variables of the one row are the other one's: the loop. -/
theorem head_of {l : List Int} {c : Int} (h : l[(0 : Int).toNat]? = some c) : l.headD 0 = c := by
  cases l with
  | nil => simp at h
  | cons x l => simpa using h
theorem vars_len (l : List Int) : (vars l).length ≤ l.length := by have := varsGo_len l []; simpa [vars] using this
theorem free_loop28 (h49 : SpecHasI D 49) {a t : Value} {va vt : List Int} {h0 : H} (ra : Ir h0 a va) (rt : Ir h0 t vt) {K : Kl} {I : List Value → H → Prop}
    (hI : ∀ a0 a1 a2 a3 h, round28_13 D I K a0 a1 a2 a3 h → I [a0, a1, a2, a3] h) (hK1 : vt.all (fun v => decide (v ∈ va)) = true → K (.e 1) [] h0) (hK2 : vt.all (fun v => decide (v ∈ va)) = false → K .r [.int .i64 72] h0) :
    ∀ (n i : Nat), vt.length - i ≤ n → i ≤ vt.length → (vt.drop i).all (fun v => decide (v ∈ va)) = vt.all (fun v => decide (v ∈ va)) → I [a, t, .int .i64 ((vt.length : Nat) : Int), .int .i64 ((i : Nat) : Int)] h0 := by
  have hl := rt.len
  intro n
  induction n with
  | zero =>
    intro i hn hi hv
    refine hI _ _ _ _ _ ?_
    unfold round28_13
    rw [intK_int, intK_int, cond_dec]
    refine ⟨fun hlt => by omega, fun _ => ?_⟩
    rw [List.drop_eq_nil_of_le (by omega)] at hv
    exact hK1 hv.symm
  | succ n ih =>
    intro i hn hi hv
    refine hI _ _ _ _ _ ?_
    unfold round28_13
    rw [intK_int, intK_int, cond_dec]
    refine ⟨fun hlt => ?_, fun _ => ?_⟩
    · refine rt.at_ (by omega) (by omega) fun ad x hx _ hrd => ⟨x, hrd, ?_⟩
      rw [Int.toNat_natCast] at hx
      rw [(split_at hx).2.2, List.all_cons] at hv
      refine h49 _ _ _ _ _ _ ra ⟨_, rfl, ?_⟩
      cases hm : decide (x ∈ va) with
      | true =>
        rw [hm, Bool.true_and] at hv
        rw [Bool.not_true, cond_false, i64_id (by omega) (by omega)]
        exact ih (i + 1) (by omega) (by omega) hv
      | false =>
        rw [hm, Bool.false_and] at hv
        exact hK2 hv.symm
    · rw [List.drop_eq_nil_of_le (by omega)] at hv
      exact hK1 hv.symm
theorem free_loop30 (h62 : SpecHasI D 62) {a t : Value} {va vt : List Int} {h0 : H} (ra : Ir h0 a va) (rt : Ir h0 t vt) {K : Kl} {I : List Value → H → Prop}
    (hI : ∀ a0 a1 a2 h, round30_14 D I K a0 a1 a2 h → I [a0, a1, a2] h) (hK1 : vt.all (fun v => decide (v ∈ va)) = true → K (.e 0) [] h0) (hK2 : vt.all (fun v => decide (v ∈ va)) = false → K .r [.int .i64 72] h0) :
    ∀ (n i : Nat), vt.length - i ≤ n → i ≤ vt.length → (vt.drop i).all (fun v => decide (v ∈ va)) = vt.all (fun v => decide (v ∈ va)) → I [a, t, .int .i64 ((i : Nat) : Int)] h0 := by
  have hl := rt.len
  intro n
  induction n with
  | zero =>
    intro i hn hi hv
    refine hI _ _ _ _ ?_
    unfold round30_14
    rw [intK_int, rt.len_, cond_dec]
    refine ⟨fun hlt => by omega, fun _ => ?_⟩
    rw [List.drop_eq_nil_of_le (by omega)] at hv
    exact hK1 hv.symm
  | succ n ih =>
    intro i hn hi hv
    refine hI _ _ _ _ ?_
    unfold round30_14
    rw [intK_int, rt.len_, cond_dec]
    refine ⟨fun hlt => ?_, fun _ => ?_⟩
    · refine rt.at_ (by omega) (by omega) fun ad x hx _ hrd => ⟨x, hrd, ?_⟩
      rw [Int.toNat_natCast] at hx
      rw [(split_at hx).2.2, List.all_cons] at hv
      refine h62 _ _ _ _ _ _ ra ⟨_, rfl, ?_⟩
      cases hm : decide (x ∈ va) with
      | true =>
        rw [hm, Bool.true_and] at hv
        rw [Bool.not_true, cond_false, i64_id (by omega) (by omega)]
        exact ih (i + 1) (by omega) (by omega) hv
      | false =>
        rw [hm, Bool.false_and] at hv
        exact hK2 hv.symm
    · rw [List.drop_eq_nil_of_le (by omega)] at hv
      exact hK1 hv.symm
theorem ruleE_rest {sig : List Sy} {r : Ru} (h1 : scan (S2 sig) 1 r.1 = 0) (h2 : scan (S2 sig) 1 r.2 = 0) : ruleE sig r = if 512 < r.1.length ∨ 512 < r.2.length then 2 else if r.1.headD 0 < 0 then 71 else if (vars r.2).all (fun v => decide (v ∈ vars r.1)) then 0 else 72 := by
  unfold ruleE; rw [if_neg (by simpa using h1), if_neg (by simpa using h2)]
theorem max2 {a b : Int} {k : Value → Prop} (hk : k (.int .i64 (if a < b then b else a))) : minMax true [.int .i64 a, .int .i64 b] k := by
  unfold minMax minMaxGo minMaxGo
  exact ⟨rfl, hk⟩
theorem spec28 (c : Cl28 D) (s56 : SpecRight D 56) (s57 : SpecVars D 57) (h49 : SpecHasI D 49) : SpecRule D 28 := by
  intro s v w sig r h k kp rs ha r1 r2 hk
  refine c _ _ _ _ _ ?_
  unfold F28
  have hl1 := r1.len
  have hl2 := r2.len
  rw [aggW_agg]
  intro b hb
  rw [ptrW_ptr]
  have e1 : Ext h (h.set b (.cells [v, w])) := Ext.new hb
  have hb1 : (h.set b (.cells [v, w])) b = some (.cells [v, w]) := set_here
  refine ⟨v, rd_cell (i := 0) hb1 rfl, ?_⟩
  refine s56 _ _ _ _ _ _ _ (rs.ext e1) ha (r1.ext e1) fun h2 e2 => ⟨_, rfl, ?_⟩
  have e12 := e1.trans e2
  have hb2 := e2 _ _ hb1
  rw [cond_ne]
  refine ⟨fun hne => ?_, fun hz1 => ?_⟩
  · have := hk h2 e12
    unfold ruleE at this
    rw [if_pos hne] at this
    exact this
  rw [ptrW_ptr]
  refine ⟨w, rd_cell (i := 1) hb2 rfl, ?_⟩
  refine s56 _ _ _ _ _ _ _ (rs.ext e12) ha (r2.ext e12) fun h3 e3 => ⟨_, rfl, ?_⟩
  have e13 := e12.trans e3
  have hb3 := e3 _ _ hb2
  rw [cond_ne]
  refine ⟨fun hne => ?_, fun hz2 => ?_⟩
  · have := hk h3 e13
    unfold ruleE at this
    rw [if_neg (by simpa using hz1), if_pos hne] at this
    exact this
  have hR := ruleE_rest hz1 hz2
  rw [ptrW_ptr]
  refine ⟨v, rd_cell (i := 0) hb3 rfl, ?_⟩
  rw [(r1.ext e13).len_, ptrW_ptr]
  refine ⟨w, rd_cell (i := 1) hb3 rfl, ?_⟩
  rw [(r2.ext e13).len_]
  refine max2 ?_
  rw [intK_int, cond_dec]
  have hmx : ((if (r.1.length : Int) < (r.2.length : Int) then (r.2.length : Int) else (r.1.length : Int)) > 512) ↔ (512 < r.1.length ∨ 512 < r.2.length) := by split <;> omega
  rw [hmx]
  refine ⟨fun hbig => ?_, fun hsm => ?_⟩
  · have := hk h3 e13
    rw [hR, if_pos hbig] at this
    exact this
  rw [if_neg hsm] at hR
  have hne : r.1 ≠ [] := isTerm_ne (sig := S2 sig) hz1
  have hpos : 0 < r.1.length := List.length_pos_iff.mpr hne
  rw [ptrW_ptr]
  refine ⟨v, rd_cell (i := 0) hb3 rfl, ?_⟩
  refine (r1.ext e13).at_ (by omega) (by omega) fun ad x hx _ hrd => ⟨x, hrd, ?_⟩
  rw [head_of hx] at hR
  rw [cond_dec]
  refine ⟨fun hneg => ?_, fun hnn => ?_⟩
  · have := hk h3 e13
    rw [hR, if_pos hneg] at this
    exact this
  rw [if_neg hnn] at hR
  rw [ptrW_ptr]
  refine ⟨v, rd_cell (i := 0) hb3 rfl, ?_⟩
  refine s57 _ _ _ _ _ (r1.ext e13) fun va h4 rva e4 => ⟨_, rfl, ?_⟩
  have e14 := e13.trans e4
  have hb4 := e4 _ _ hb3
  rw [ptrW_ptr]
  refine ⟨w, rd_cell (i := 1) hb4 rfl, ?_⟩
  refine s57 _ _ _ _ _ (r2.ext e14) fun vt h5 rvt e5 => ⟨_, rfl, ?_⟩
  have hk5 := hk h5 (e14.trans e5)
  rw [hR] at hk5
  rw [rvt.len_]
  intro I hI
  refine free_loop28 h49 (rva.ext e5) rvt hI (fun hall => ?_) (fun hall => ?_) (vars r.2).length 0 (by omega) (by omega) (by simp)
  · rw [hall, if_pos rfl] at hk5
    exact hk5
  · rw [hall, if_neg (by simp)] at hk5
    exact hk5
theorem spec30 (c : Cl30 D) (s60 : SpecTerm D 60) (s61 : SpecVars D 61) (h62 : SpecHasI D 62) : SpecRule D 30 := by
  intro s v w sig r h k kp rs ha r1 r2 hk
  refine c _ _ _ _ _ ?_
  unfold F30
  have hl1 := r1.len
  have hl2 := r2.len
  rw [aggW_agg]
  intro b hb
  rw [ptrW_ptr]
  have e1 : Ext h (h.set b (.cells [v, w])) := Ext.new hb
  have hb1 : (h.set b (.cells [v, w])) b = some (.cells [v, w]) := set_here
  generalize h.set b (.cells [v, w]) = h3 at e1 hb1 ⊢
  refine ⟨v, rd_cell (i := 0) hb1 rfl, ?_⟩
  refine s60 _ _ _ _ _ _ _ (rs.ext e1) ha (r1.ext e1) ⟨_, rfl, ?_⟩
  rw [cond_ne]
  refine ⟨fun hne => ?_, fun hz1 => ?_⟩
  · have := hk h3 e1
    unfold ruleE at this
    rw [if_pos hne] at this
    exact this
  rw [ptrW_ptr]
  refine ⟨w, rd_cell (i := 1) hb1 rfl, ?_⟩
  refine s60 _ _ _ _ _ _ _ (rs.ext e1) ha (r2.ext e1) ⟨_, rfl, ?_⟩
  rw [cond_ne]
  refine ⟨fun hne => ?_, fun hz2 => ?_⟩
  · have := hk h3 e1
    unfold ruleE at this
    rw [if_neg (by simpa using hz1), if_pos hne] at this
    exact this
  have hR := ruleE_rest hz1 hz2
  have hne : r.1 ≠ [] := isTerm_ne (sig := S2 sig) hz1
  have hpos : 0 < r.1.length := List.length_pos_iff.mpr hne
  have eight : ∀ t : Bool, t = decide (512 < r.1.length ∨ 512 < r.2.length) → j30__8 D k kp (.pointer (some ⟨b, 0, none⟩)) (.bool t) h3 := by
    intro t ht
    unfold j30__8
    rw [boolW_bool]
    cases t with
    | true =>
      have hbig : 512 < r.1.length ∨ 512 < r.2.length := by simpa using ht.symm
      have := hk h3 e1
      rw [hR, if_pos hbig] at this
      exact this
    | false =>
      have hsm : ¬ (512 < r.1.length ∨ 512 < r.2.length) := by simpa only [decide_eq_false_iff_not] using ht.symm
      rw [if_neg hsm] at hR
      rw [cond_false, ptrW_ptr]
      refine ⟨v, rd_cell (i := 0) hb1 rfl, ?_⟩
      refine (r1.ext e1).at_ (by omega) (by omega) fun ad x hx _ hrd => ⟨x, hrd, ?_⟩
      rw [head_of hx] at hR
      rw [cond_dec]
      refine ⟨fun hneg => ?_, fun hnn => ?_⟩
      · have := hk h3 e1
        rw [hR, if_pos hneg] at this
        exact this
      rw [if_neg hnn] at hR
      rw [ptrW_ptr]
      refine ⟨v, rd_cell (i := 0) hb1 rfl, ?_⟩
      refine s61 _ _ _ _ _ (r1.ext e1) fun va h4 rva e4 => ⟨_, rfl, ?_⟩
      have e14 := e1.trans e4
      have hb4 := e4 _ _ hb1
      rw [ptrW_ptr]
      refine ⟨w, rd_cell (i := 1) hb4 rfl, ?_⟩
      refine s61 _ _ _ _ _ (r2.ext e14) fun vt h5 rvt e5 => ⟨_, rfl, ?_⟩
      have hk5 := hk h5 (e14.trans e5)
      rw [hR] at hk5
      intro I hI
      refine free_loop30 h62 (rva.ext e5) rvt hI (fun hall => ?_) (fun hall => ?_) (vars r.2).length 0 (by omega) (by omega) (by simp)
      · rw [hall, if_pos rfl] at hk5
        exact hk5
      · rw [hall, if_neg (by simp)] at hk5
        exact hk5
  rw [ptrW_ptr]
  refine ⟨v, rd_cell (i := 0) hb1 rfl, ?_⟩
  rw [(r1.ext e1).len_, cond_not, cond_dec]
  refine ⟨fun hbig => eight true ?_, fun hsm => ?_⟩
  · exact (decide_eq_true (.inl (by omega))).symm
  · rw [ptrW_ptr]
    refine ⟨w, rd_cell (i := 1) hb1 rfl, ?_⟩
    rw [(r2.ext e1).len_]
    refine eight _ ?_
    rw [decide_eq_decide]; omega
end Go.Proofs.YtnlhnlmnlfmojaaDoor.Am

namespace Go.Proofs.YtnlhnlmnlfmojaaDoor.Am
open Go Go.Proofs Sys Go.Lib
set_option linter.unusedVariables false
set_option linter.unusedSimpArgs false
set_option maxRecDepth 100000
variable {D : Orc} {T : H → Prop}

def ruRow (vs : List (Value × Value)) : List (List Value) := vs.map fun v => [v.1, v.2]
/-- A row of rules. -/
structure Rr (h : H) (s : Value) (rs : List Ru) : Prop where
  ex : ∃ vs : List (Value × Value), RowK 2 h s (ruRow vs) ∧ vs.length = rs.length ∧ ∀ (i : Nat) v, vs[i]? = some v → ∃ r, rs[i]? = some r ∧ Ir h v.1 r.1 ∧ Ir h v.2 r.2
  len : rs.length < 2 ^ 40
theorem Rr.ext {h h' : H} {s : Value} {rs : List Ru} (r : Rr h s rs) (e : Ext h h') : Rr h' s rs := by
  obtain ⟨vs, h1, h2, h3⟩ := r.ex
  exact ⟨⟨vs, h1.ext e, h2, fun i v hv => by obtain ⟨r, a, b, c⟩ := h3 i v hv; exact ⟨r, a, b.ext e, c.ext e⟩⟩, r.len⟩
theorem ruRow_len (vs : List (Value × Value)) : (ruRow vs).length = vs.length := by simp [ruRow]
theorem Rr.len_ {h : H} {s : Value} {rs : List Ru} (r : Rr h s rs) {k : Nat → Prop} : lenW s k ↔ k rs.length := by
  obtain ⟨vs, h1, h2, h3⟩ := r.ex
  rw [h1.len, ruRow_len, h2]
theorem ir_one {h : H} {s : Value} {l : List Int} (r : Ir h s l) : one s = true := sl_one r.row.isSl
theorem Rr.at_ {h : H} {s : Value} {rs : List Ru} (r : Rr h s rs) {n : Int} (h0 : 0 ≤ n) (h1 : n < rs.length) {k : Addr → Prop}
    (hk : ∀ a v w x, rs[n.toNat]? = some x → rdN h a 2 = some [v, w] → rd h (a.add 0) = some v → rd h (a.add 1) = some w → Ir h v x.1 → Ir h w x.2 → k a) : slAtW s n 2 k := by
  obtain ⟨vs, g1, g2, g3⟩ := r.ex
  refine g1.at_ h0 (by rw [ruRow_len, g2]; exact h1) fun a v hv hrd hj => ?_
  simp only [ruRow, List.getElem?_map, Option.map_eq_some_iff] at hv
  obtain ⟨v, hv, rfl⟩ := hv
  obtain ⟨x, hx, i1, i2⟩ := g3 _ _ hv
  exact hk a v.1 v.2 x hx hrd (hj 0 _ rfl) (hj 1 _ rfl) i1 i2
theorem Rr.isSl {h : H} {s : Value} {rs : List Ru} (r : Rr h s rs) : isSl s := by obtain ⟨vs, h1, _⟩ := r.ex; exact h1.isSl
/-- A signature and rules. -/
structure Sm where
  sig : List Sy
  rules : List Ru
structure Ss (h : H) (v : Value) (S : Sm) : Prop where
  ex : ∃ a b, v = .agg #[a, b] ∧ Sr h a S.sig ∧ Rr h b S.rules
theorem Ss.ext {h h' : H} {v : Value} {S : Sm} (r : Ss h v S) (e : Ext h h') : Ss h' v S := by
  obtain ⟨a, b, h1, h2, h3⟩ := r.ex
  exact ⟨⟨a, b, h1, h2.ext e, h3.ext e⟩⟩
def rulesE (sig : List Sy) : Nat → List Ru → Int × Int
  | _, [] => (0, 0)
  | i, r :: rs => if ruleE sig r ≠ 0 then (ruleE sig r, (i : Int)) else rulesE sig (i + 1) rs
/-- What is wrong with a system, and with which rule. -/
def chkSys (S : Sm) : Int × Int := if plainE S.sig ≠ 0 then (plainE S.sig, -1) else if 64 < S.rules.length then (70, -1) else rulesE S.sig 0 S.rules
def SpecSys (D : Orc) (f : Nat) (T : H → Prop) : Prop := ∀ v S h (k : Kv) kp, Ss h v S → T h → (∀ h', Ext h h' → k (.tuple #[.int .i64 (chkSys S).1, .int .i64 (chkSys S).2]) h') → D f [v] h k kp
theorem plain_ok {sig : List Sy} (h : plainE sig = 0) : chkSig sig = 0 ∧ sig.length ≤ 64 := by
  unfold plainE at h
  by_cases h1 : chkSig sig ≠ 0
  · rw [if_pos h1] at h; exact absurd h h1
  · rw [if_neg h1] at h
    by_cases h2 : 64 < sig.length
    · rw [if_pos h2] at h; simp at h
    · exact ⟨by simpa using h1, by omega⟩
theorem rd2 {h : H} {b : Nat} {u v : Value} (hb : h b = some (.cells [u, v])) : rdN h ⟨b, 0, none⟩ 2 = some [u, v] := by
  simp only [rdN, hb, rowOf, Option.bind_some]
  rw [if_pos (by simp)]; rfl
theorem sys_loop10 (s28 : SpecRule D 28) {a b : Value} {sig : List Sy} {rules : List Ru} {pb : Nat} {h0 : H} (ra : Sr h0 a sig) (rb : Rr h0 b rules) (hp : h0 pb = some (.cells [a, b])) (har : ArOk sig) {K : Kl} {I : List Value → H → Prop}
    (hI : ∀ a0 a1 a2 a3 h, round10_7 D I K a0 a1 a2 a3 h → I [a0, a1, a2, a3] h) {e i : Int} (hK1 : ∀ h', Ext h0 h' → (e = 0 ∧ i = 0) → K (.e 0) [] h') (hK2 : ∀ h', Ext h0 h' → e ≠ 0 → K .r [.int .i64 e, .int .i64 i] h') :
    ∀ (n j : Nat) (h : H), rules.length - j ≤ n → j ≤ rules.length → Ext h0 h → rulesE sig j (rules.drop j) = (e, i) → I [.pointer (some ⟨pb, 0, none⟩), b, .int .i64 ((rules.length : Nat) : Int), .int .i64 ((j : Nat) : Int)] h := by
  have hl := rb.len
  intro n
  induction n with
  | zero =>
    intro j h hn hj he hr
    refine hI _ _ _ _ _ ?_
    unfold round10_7
    rw [intK_int, intK_int, cond_dec]
    refine ⟨fun hlt => by omega, fun _ => ?_⟩
    rw [List.drop_eq_nil_of_le (by omega)] at hr
    simp only [rulesE, Prod.mk.injEq] at hr
    exact hK1 _ he ⟨hr.1.symm, hr.2.symm⟩
  | succ n ih =>
    intro j h hn hj he hr
    refine hI _ _ _ _ _ ?_
    unfold round10_7
    rw [intK_int, intK_int, cond_dec]
    refine ⟨fun hlt => ?_, fun _ => ?_⟩
    · refine (rb.ext he).at_ (by omega) (by omega) fun ad v w x hx hrd _ _ i1 i2 => ?_
      rw [Int.toNat_natCast] at hx
      rw [(split_at hx).2.2, rulesE] at hr
      refine ⟨v, w, hrd, ?_⟩
      refine two_rule (ir_one i1) (ir_one i2) (by trivial) fun c h1 hc0 hc e1 => ?_
      have he1 := he.trans e1
      rw [ptrW_ptr]
      refine ⟨a, rd_cell (i := 0) (he1 _ _ hp) rfl, ?_⟩
      rw [ptrW_ptr]
      refine ⟨v, w, rd2 hc, ?_⟩
      refine s28 _ _ _ _ _ _ _ _ (ra.ext he1) har (i1.ext e1) (i2.ext e1) fun h2 e2 => ⟨_, rfl, ?_⟩
      have he2 := he1.trans e2
      rw [cond_ne]
      refine ⟨fun hne => ?_, fun hz => ?_⟩
      · rw [if_pos hne] at hr
        simp only [Prod.mk.injEq] at hr
        rw [hr.1, hr.2]
        exact hK2 _ he2 (by rw [← hr.1]; exact hne)
      · rw [if_neg (by simpa using hz)] at hr
        rw [i64_id (by omega) (by omega)]
        exact ih (j + 1) h2 (by omega) (by omega) he2 hr
    · rw [List.drop_eq_nil_of_le (by omega)] at hr
      simp only [rulesE, Prod.mk.injEq] at hr
      exact hK1 _ he ⟨hr.1.symm, hr.2.symm⟩
theorem spec10 (hT : Stays T) (c : Cl10 D) (s27 : SpecPlain D 27 T) (s28 : SpecRule D 28) : SpecSys D 10 T := by
  intro v S h k kp r ht hk
  obtain ⟨a, b, rfl, ra, rb⟩ := r.ex
  refine c _ _ _ _ ?_
  unfold F10
  have hl := rb.len
  rw [aggW_agg]
  intro pb hpb
  have e1 : Ext h (h.set pb (.cells [a, b])) := Ext.new hpb
  have hb1 : (h.set pb (.cells [a, b])) pb = some (.cells [a, b]) := set_here
  rw [ptrW_ptr]
  refine ⟨a, rd_cell (i := 0) hb1 rfl, ?_⟩
  refine s27 _ _ _ _ _ (ra.ext e1) (hT _ _ e1 ht) fun h2 e2 => ⟨_, rfl, ?_⟩
  have e12 := e1.trans e2
  have hb2 := e2 _ _ hb1
  rw [cond_ne]
  refine ⟨fun hne => ?_, fun hz => ?_⟩
  · have := hk h2 e12
    unfold chkSys at this
    rw [if_pos hne] at this
    exact this
  rw [ptrW_ptr]
  refine ⟨b, rd_cell (i := 1) hb2 rfl, ?_⟩
  rw [(rb.ext e12).len_, cond_dec]
  refine ⟨fun hbig => ?_, fun hsm => ?_⟩
  · have := hk h2 e12
    unfold chkSys at this
    rw [if_neg (by simpa using hz), if_pos (by omega)] at this
    exact this
  have hC : chkSys S = rulesE S.sig 0 S.rules := by unfold chkSys; rw [if_neg (by simpa using hz), if_neg (by omega)]
  rw [hC] at hk
  rw [ptrW_ptr]
  refine ⟨b, rd_cell (i := 1) hb2 rfl, ?_⟩
  rw [(rb.ext e12).len_]
  intro I hI
  refine sys_loop10 s28 (ra.ext e12) (rb.ext e12) hb2 (ar_of (plain_ok hz).1) hI (e := (rulesE S.sig 0 S.rules).1) (i := (rulesE S.sig 0 S.rules).2) (fun h' e' h0 => ?_) (fun h' e' hne => ?_) S.rules.length 0 h2 (by omega) (by omega) (Ext.refl _) (by simp)
  · have := hk h' (e12.trans e')
    rw [h0.1, h0.2] at this
    exact this
  · exact hk h' (e12.trans e')
theorem sys_loop11 (s30 : SpecRule D 30) {a b : Value} {sig : List Sy} {rules : List Ru} {pb : Nat} {h0 : H} (ra : Sr h0 a sig) (rb : Rr h0 b rules) (hp : h0 pb = some (.cells [a, b])) (har : ArOk sig) {K : Kl} {I : List Value → H → Prop}
    (hI : ∀ a0 a1 h, round11_7 D I K a0 a1 h → I [a0, a1] h) {e i : Int} (hK1 : ∀ h', Ext h0 h' → (e = 0 ∧ i = 0) → K (.e 0) [] h') (hK2 : ∀ h', Ext h0 h' → e ≠ 0 → K .r [.int .i64 e, .int .i64 i] h') :
    ∀ (n j : Nat) (h : H), rules.length - j ≤ n → j ≤ rules.length → Ext h0 h → rulesE sig j (rules.drop j) = (e, i) → I [.pointer (some ⟨pb, 0, none⟩), .int .i64 ((j : Nat) : Int)] h := by
  have hl := rb.len
  intro n
  induction n with
  | zero =>
    intro j h hn hj he hr
    refine hI _ _ _ ?_
    unfold round11_7
    rw [intK_int, ptrW_ptr]
    refine ⟨b, rd_cell (i := 1) (he _ _ hp) rfl, ?_⟩
    rw [(rb.ext he).len_, cond_dec]
    refine ⟨fun hlt => by omega, fun _ => ?_⟩
    rw [List.drop_eq_nil_of_le (by omega)] at hr
    simp only [rulesE, Prod.mk.injEq] at hr
    exact hK1 _ he ⟨hr.1.symm, hr.2.symm⟩
  | succ n ih =>
    intro j h hn hj he hr
    refine hI _ _ _ ?_
    unfold round11_7
    rw [intK_int, ptrW_ptr]
    refine ⟨b, rd_cell (i := 1) (he _ _ hp) rfl, ?_⟩
    rw [(rb.ext he).len_, cond_dec]
    refine ⟨fun hlt => ?_, fun _ => ?_⟩
    · rw [ptrW_ptr]
      refine ⟨a, rd_cell (i := 0) (he _ _ hp) rfl, ?_⟩
      rw [ptrW_ptr]
      refine ⟨b, rd_cell (i := 1) (he _ _ hp) rfl, ?_⟩
      refine (rb.ext he).at_ (by omega) (by omega) fun ad v w x hx hrd _ _ i1 i2 => ?_
      rw [Int.toNat_natCast] at hx
      rw [(split_at hx).2.2, rulesE] at hr
      refine ⟨v, w, hrd, ?_⟩
      refine s30 _ _ _ _ _ _ _ _ (ra.ext he) har i1 i2 fun h2 e2 => ⟨_, rfl, ?_⟩
      have he2 := he.trans e2
      rw [cond_ne]
      refine ⟨fun hne => ?_, fun hz => ?_⟩
      · rw [if_pos hne] at hr
        simp only [Prod.mk.injEq] at hr
        rw [hr.1, hr.2]
        exact hK2 _ he2 (by rw [← hr.1]; exact hne)
      · rw [if_neg (by simpa using hz)] at hr
        rw [i64_id (by omega) (by omega)]
        exact ih (j + 1) h2 (by omega) (by omega) he2 hr
    · rw [List.drop_eq_nil_of_le (by omega)] at hr
      simp only [rulesE, Prod.mk.injEq] at hr
      exact hK1 _ he ⟨hr.1.symm, hr.2.symm⟩
theorem spec11 (hT : Stays T) (c : Cl11 D) (s29 : SpecPlain D 29 T) (s30 : SpecRule D 30) : SpecSys D 11 T := by
  intro v S h k kp r ht hk
  obtain ⟨a, b, rfl, ra, rb⟩ := r.ex
  refine c _ _ _ _ ?_
  unfold F11
  have hl := rb.len
  rw [aggW_agg]
  intro pb hpb
  have e1 : Ext h (h.set pb (.cells [a, b])) := Ext.new hpb
  have hb1 : (h.set pb (.cells [a, b])) pb = some (.cells [a, b]) := set_here
  rw [ptrW_ptr]
  refine ⟨a, rd_cell (i := 0) hb1 rfl, ?_⟩
  refine s29 _ _ _ _ _ (ra.ext e1) (hT _ _ e1 ht) fun h2 e2 => ⟨_, rfl, ?_⟩
  have e12 := e1.trans e2
  have hb2 := e2 _ _ hb1
  rw [cond_ne]
  refine ⟨fun hne => ?_, fun hz => ?_⟩
  · have := hk h2 e12
    unfold chkSys at this
    rw [if_pos hne] at this
    exact this
  rw [ptrW_ptr]
  refine ⟨b, rd_cell (i := 1) hb2 rfl, ?_⟩
  rw [(rb.ext e12).len_, cond_dec]
  refine ⟨fun hbig => ?_, fun hsm => ?_⟩
  · have := hk h2 e12
    unfold chkSys at this
    rw [if_neg (by simpa using hz), if_pos (by omega)] at this
    exact this
  have hC : chkSys S = rulesE S.sig 0 S.rules := by unfold chkSys; rw [if_neg (by simpa using hz), if_neg (by omega)]
  rw [hC] at hk
  intro I hI
  refine sys_loop11 s30 (ra.ext e12) (rb.ext e12) hb2 (ar_of (plain_ok hz).1) hI (e := (rulesE S.sig 0 S.rules).1) (i := (rulesE S.sig 0 S.rules).2) (fun h' e' h0 => ?_) (fun h' e' hne => ?_) S.rules.length 0 h2 (by omega) (by omega) (Ext.refl _) (by simp)
  · have := hk h' (e12.trans e')
    rw [h0.1, h0.2] at this
    exact this
  · exact hk h' (e12.trans e')
/-- A system is right. -/
def rightS (S : Sm) : Bool := (chkSys S).1 == 0
def SpecRightS (D : Orc) (f : Nat) (T : H → Prop) : Prop := ∀ v S h (k : Kv) kp, Ss h v S → T h → (∀ h', Ext h h' → k (.bool (rightS S)) h') → D f [v] h k kp
theorem spec31 (hT : Stays T) (c : Cl31 D) (s10 : SpecSys D 10 T) : SpecRightS D 31 T := by
  intro v S h k kp r ht hk
  obtain ⟨a, b, rfl, ra, rb⟩ := r.ex
  refine c _ _ _ _ ?_
  unfold F31
  rw [aggW_agg]
  intro pb hpb
  have e1 : Ext h (h.set pb (.cells [a, b])) := Ext.new hpb
  rw [ptrW_ptr]
  refine ⟨a, b, rd2 set_here, ?_⟩
  exact s10 _ S _ _ _ ⟨⟨a, b, rfl, ra.ext e1, rb.ext e1⟩⟩ (hT _ _ e1 ht) fun h2 e2 => ⟨_, _, rfl, hk h2 (e1.trans e2)⟩
theorem spec17 (hT : Stays T) (c : Cl17 D) (s11 : SpecSys D 11 T) : SpecRightS D 17 T := by
  intro v S h k kp r ht hk
  obtain ⟨a, b, rfl, ra, rb⟩ := r.ex
  refine c _ _ _ _ ?_
  unfold F17
  rw [aggW_agg]
  intro pb hpb
  have e1 : Ext h (h.set pb (.cells [a, b])) := Ext.new hpb
  rw [ptrW_ptr]
  refine ⟨a, b, rd2 set_here, ?_⟩
  exact s11 _ S _ _ _ ⟨⟨a, b, rfl, ra.ext e1, rb.ext e1⟩⟩ (hT _ _ e1 ht) fun h2 e2 => ⟨_, _, rfl, hk h2 (e1.trans e2)⟩
theorem spec14 (c : Cl14 D) {a b : Value} {l m : List Int} {h : H} {k : Kv} {kp : Kp} (ra : Ir h a l) (rb : Ir h b m) (hk : k (.bool (decide (l = m))) h) : D 14 [a, b] h k kp := by
  refine c _ _ _ _ _ ?_
  unfold F14
  have hl := ra.len
  have hm := rb.len
  rw [ra.len_, rb.len_, cond_ne]
  refine ⟨fun hne => ?_, fun heq => ?_⟩
  · have : decide (l = m) = false := decide_eq_false fun h => hne (by rw [h])
    rw [this] at hk; exact hk
  have hlen : l.length = m.length := by omega
  intro I hI
  have key : ∀ (n i : Nat), l.length - i ≤ n → i ≤ l.length → decide (l.drop i = m.drop i) = decide (l = m) → I [a, b, .int .i64 ((i : Nat) : Int)] h := by
    intro n
    induction n with
    | zero =>
      intro i hn hi he
      refine hI _ _ _ _ ?_
      unfold round14_4
      rw [intK_int, ra.len_, cond_dec]
      refine ⟨fun hlt => by omega, fun _ => ?_⟩
      rw [List.drop_eq_nil_of_le (by omega), List.drop_eq_nil_of_le (by omega)] at he
      have : decide (l = m) = true := by rw [← he]; rfl
      rw [this] at hk; exact hk
    | succ n ih =>
      intro i hn hi he
      refine hI _ _ _ _ ?_
      unfold round14_4
      rw [intK_int, ra.len_, cond_dec]
      refine ⟨fun hlt => ?_, fun _ => ?_⟩
      · refine ra.at_ (by omega) (by omega) fun ad x hx _ hrd => ⟨x, hrd, ?_⟩
        refine rb.at_ (by omega) (by omega) fun ad2 y hy _ hrd2 => ⟨y, hrd2, ?_⟩
        rw [Int.toNat_natCast] at hx hy
        rw [(split_at hx).2.2, (split_at hy).2.2] at he
        rw [cond_ne]
        refine ⟨fun hne => ?_, fun heq => ?_⟩
        · have : decide (l = m) = false := by rw [← he]; exact decide_eq_false fun h => hne (List.cons.inj h).1
          rw [this] at hk; exact hk
        · subst heq
          rw [i64_id (by omega) (by omega)]
          refine ih (i + 1) (by omega) (by omega) ?_
          rw [← he, decide_eq_decide]
          constructor
          · intro h; rw [h]
          · intro h; exact (List.cons.inj h).2
      · rw [List.drop_eq_nil_of_le (by omega), List.drop_eq_nil_of_le (by omega)] at he
        have : decide (l = m) = true := by rw [← he]; rfl
        rw [this] at hk; exact hk
  exact key l.length 0 (by omega) (by omega) (by simp)
end Go.Proofs.YtnlhnlmnlfmojaaDoor.Am
