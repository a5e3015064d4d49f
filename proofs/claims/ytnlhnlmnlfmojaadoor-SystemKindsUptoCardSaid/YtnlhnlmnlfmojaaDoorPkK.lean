/-
  Packed: Variables that are moved. Rows of pairs that grow, and whose elements change places. The order of rules and the names of variables: the third law.
-/
import Derived.Test.YtnlhnlmnlfmojaaDoorPkU
namespace Go.Proofs.YtnlhnlmnlfmojaaDoor.Am
open Go Go.Proofs Sys Go.Lib
set_option linter.unusedVariables false
set_option linter.unusedSimpArgs false
set_option maxRecDepth 100000
variable {D : Orc} {T : H → Prop}

def shC (by_ c : Int) : Int := if c < 0 then c - by_ else c
def ShOk (by_ : Int) (l : List Int) : Prop := ∀ c ∈ l, c < 0 → -1048576 ≤ c - by_ ∧ c - by_ < 0
theorem spec18 (c : Cl18 D) {t : Value} {l : List Int} {by_ : Int} {h : H} {k : Kv} {kp : Kp} (q : Ir h t l) (hby : inI by_)
    (hbad : ∀ h', Ext h h' → k (.tuple #[.slice none 0 0, .int .i64 40]) h') (hk : ∀ v h', Ext h h' → Ir h' v (l.map (shC by_)) → (∀ d, Blk v = some d → h d = none) → ShOk by_ l → k (.tuple #[v, .int .i64 0]) h') : D 18 [t, .int .i64 by_] h k kp := by
  refine c _ _ _ _ _ ?_
  unfold F18
  have hl := q.len
  have hl' : l.length < 1099511627776 := hl
  unfold inI at hby
  rw [intK_int]
  intro q0 hq0
  have e0 : Ext h (h.set q0 (.cells [])) := Ext.new hq0
  have o0 : Own h (h.set q0 (.cells [])) (.slice (some ⟨q0, 0, none⟩) 0 0) (Z []) := ⟨e0, .inl ⟨⟨_, rfl⟩, rfl⟩, fun d hd => by rw [Blk_nil] at hd; cases hd⟩
  generalize h.set q0 (.cells []) = h1 at e0 o0 ⊢
  intro I hI
  have key : ∀ (n i : Nat) (out : Value) (h2 : H), l.length - i ≤ n → i ≤ l.length → Own h h2 out (Z ((l.take i).map (shC by_))) → ShOk by_ (l.take i) →
      I [t, .int .i64 by_, out, .int .i64 ((i : Nat) : Int)] h2 := by
    have fin : ∀ (i : Nat) (out : Value) (h2 : H), ¬ ((i : Int) < l.length) → i ≤ l.length → Own h h2 out (Z ((l.take i).map (shC by_))) → ShOk by_ (l.take i) → k (.tuple #[out, .int .i64 0]) h2 := by
      intro i out h2 hn hi o hs
      rw [List.take_of_length_le (by omega)] at o hs
      refine hk out h2 o.ext ⟨o.row, by rw [List.length_map]; exact hl, fun x hx => ?_⟩ o.blk hs
      obtain ⟨c, hc, rfl⟩ := List.mem_map.mp hx
      have := q.rng c hc
      unfold shC
      split
      · rename_i hneg
        have := hs c hc hneg
        unfold inI; omega
      · exact this
    intro n
    induction n with
    | zero =>
      intro i out h2 hn hi o hs
      refine hI _ _ _ _ _ ?_
      unfold round18_3
      rw [intK_int, intK_int, (q.ext o.ext).len_, cond_dec]
      refine ⟨fun hlt => by omega, fun hge => ?_⟩
      exact fin i out h2 hge hi o hs
    | succ n ih =>
      intro i out h2 hn hi o hs
      refine hI _ _ _ _ _ ?_
      unfold round18_3
      rw [intK_int, intK_int, (q.ext o.ext).len_, cond_dec]
      refine ⟨fun hlt => ?_, fun hge => fin i out h2 hge hi o hs⟩
      refine (q.ext o.ext).at_ (by omega) (by omega) fun a1 x hx hxi hr1 => ⟨x, hr1, ?_⟩
      rw [Int.toNat_natCast] at hx
      have hxi' := hxi
      unfold inI at hxi'
      have htk := (split_at hx).2.1
      -- the round's end, with a code put
      have put : ∀ y : Int, y = shC by_ x → (x < 0 → -1048576 ≤ x - by_ ∧ x - by_ < 0) → ∀ s' h3, Own h h3 s' (Z ((l.take i).map (shC by_)) ++ [.int .i64 y]) → I [t, .int .i64 by_, s', .int .i64 (((i + 1 : Nat)) : Int)] h3 := by
        intro y hy hok s' h3 o'
        refine ih (i + 1) s' h3 (by omega) (by omega) ?_ fun c hc hneg => ?_
        · rw [htk, List.map_append, ← Z_app, List.map_singleton, ← hy]
          exact o'
        · rw [htk] at hc
          rcases List.mem_append.mp hc with hc | hc
          · exact hs c hc hneg
          · simp only [List.mem_singleton] at hc
            subst hc; exact hok hneg
      refine (q.ext o.ext).at_ (by omega) (by omega) fun a2 x2 hx2 _ hr2 => ⟨x2, hr2, ?_⟩
      rw [Int.toNat_natCast, hx] at hx2
      cases hx2
      have hzl : (Z ((l.take i).map (shC by_))).length < 2 ^ 40 := by rw [Z_len, List.length_map, List.length_take]; omega
      rw [cond_dec]
      refine ⟨fun hpos => ?_, fun hneg => ?_⟩
      · refine (q.ext o.ext).at_ (by omega) (by omega) fun a3 x3 hx3 _ hr3 => ⟨x3, hr3, ?_⟩
        rw [Int.toNat_natCast, hx] at hx3
        cases hx3
        refine o.push hzl (by decide) rfl rfl (by decide) fun s' h3 o' _ _ => ?_
        unfold j18_3_4
        rw [intK_int, intK_int, i64_id (by omega) (by omega)]
        exact put x (by unfold shC; rw [if_neg (by omega)]) (fun h => by omega) s' h3 o'
      · have hn : x < 0 := by omega
        -- the last step: the flag tells whether a name is left
        have last : ∀ f : Bool, (f = false → x - by_ < 0 ∧ -1048576 ≤ x - by_) → ∀ y : Int, y = -1 - (x - by_) → inI y →
            j18_3_12 D I (fun x39 vs40 h38 => xs x39 (intK IntKind.i64 (nth vs40 1) (fun x42 => k (Value.tuple #[(nth vs40 0), (Value.int IntKind.i64 x42)]) h38)) (fun i41 => cond (Nat.beq i41 0) (k (Value.tuple #[(nth vs40 0), (Value.int IntKind.i64 (0 : Int))]) h38) (False)) (fun c => kp c h38)) t (.int .i64 by_) out (.int .i64 ((i : Nat) : Int)) (.int .i64 y) (.bool f) h2 := by
          intro f hf y hy hyi
          unfold j18_3_12
          rw [intK_int, intK_int, intK_int, boolW_bool, cond_split]
          refine ⟨fun _ => ?_, fun hff => ?_⟩
          · simp only [xs_r, nth0, nth1, intK_int]
            exact hbad h2 o.ext
          · obtain ⟨h1', h2'⟩ := hf hff
            rw [i64_id (n := -1 - y) (by omega) (by omega)]
            refine o.push hzl (by decide) rfl rfl (by decide) fun s' h3 o' _ _ => ?_
            unfold j18_3_4
            rw [intK_int, intK_int, i64_id (by omega) (by omega)]
            have hyy : -1 - y = x - by_ := by omega
            rw [hyy] at o'
            exact put _ (by unfold shC; rw [if_pos hn]) (fun _ => ⟨h2', h1'⟩) s' h3 o'
        have mid : ∀ f : Bool, (f = false → by_ < 1048576 ∧ (0 ≤ by_ → -1 - x < 1048576 - by_)) →
            j18_3_9 D I (fun x39 vs40 h38 => xs x39 (intK IntKind.i64 (nth vs40 1) (fun x42 => k (Value.tuple #[(nth vs40 0), (Value.int IntKind.i64 x42)]) h38)) (fun i41 => cond (Nat.beq i41 0) (k (Value.tuple #[(nth vs40 0), (Value.int IntKind.i64 (0 : Int))]) h38) (False)) (fun c => kp c h38)) t (.int .i64 by_) out (.int .i64 ((i : Nat) : Int)) (.int .i64 (-1 - x)) (.bool f) h2 := by
          intro f hf
          unfold j18_3_9
          rw [intK_int, intK_int, intK_int, boolW_bool, cond_split]
          refine ⟨fun _ => ?_, fun hff => ?_⟩
          · simp only [xs_r, nth0, nth1, intK_int]
            exact hbad h2 o.ext
          · obtain ⟨g1, g2⟩ := hf hff
            have hb1 : -9223372036854775808 ≤ (-1 - x) + by_ ∧ (-1 - x) + by_ ≤ 9223372036854775807 := by
              by_cases h0 : 0 ≤ by_
              · have := g2 h0; omega
              · omega
            rw [i64_id hb1.1 hb1.2, cond_not, cond_dec]
            refine ⟨fun hlt0 => last true (fun h => by cases h) _ (by omega) (by unfold inI; omega), fun hge0 => ?_⟩
            refine last _ (fun hf2 => ?_) _ (by omega) (by unfold inI; omega)
            rw [decide_eq_false_iff_not] at hf2
            omega
        rw [i64_id (n := -1 - x) (by omega) (by omega), cond_not, cond_dec]
        refine ⟨fun hbig => mid true (fun h => by cases h), fun hsm => ?_⟩
        rw [cond_dec]
        refine ⟨fun h0 => ?_, fun h0 => mid false fun _ => ⟨by omega, fun h => by omega⟩⟩
        rw [i64_id (n := 1048576 - by_) (by omega) (by omega)]
        refine mid _ fun hf => ?_
        rw [decide_eq_false_iff_not] at hf
        exact ⟨by omega, fun _ => by omega⟩
  exact key l.length 0 _ h1 (by omega) (by omega) (by simpa using o0) (fun c hc => by simp at hc)

/-! ### what moving keeps -/
theorem sh_neg {b c : Int} (h : c < 0) : shC b c = c - b := by unfold shC; rw [if_pos h]
theorem sh_pos {b c : Int} (h : ¬ c < 0) : shC b c = c := by unfold shC; rw [if_neg h]
theorem sh_mem {b c : Int} (hc : c < 0) : ∀ {met : List Int}, (∀ x ∈ met, x < 0) → (shC b c ∈ met.map (shC b) ↔ c ∈ met) := by
  intro met hm
  rw [List.mem_map]
  constructor
  · rintro ⟨x, hx, he⟩
    rw [sh_neg (hm x hx), sh_neg hc] at he
    have : x = c := by omega
    subst this; exact hx
  · intro h; exact ⟨c, h, rfl⟩
theorem sh_idx {b c : Int} (hc : c < 0) : ∀ {met : List Int}, (∀ x ∈ met, x < 0) → (met.map (shC b)).idxOf (shC b c) = met.idxOf c
  | [], _ => rfl
  | x :: met, hm => by
    rw [List.map_cons, List.idxOf_cons, List.idxOf_cons, sh_idx hc fun y hy => hm y (by simp [hy])]
    have hx := hm x (by simp)
    have : (shC b x == shC b c) = (x == c) := by
      rw [sh_neg hx, sh_neg hc, Bool.eq_iff_iff, beq_iff_eq, beq_iff_eq]; omega
    rw [this]
theorem sh_met {b : Int} : ∀ (t met : List Int), ShOk b t → (∀ x ∈ met, x < 0) → metGo (met.map (shC b)) (t.map (shC b)) = (metGo met t).map (shC b) ∧ canonGo (met.map (shC b)) (t.map (shC b)) = canonGo met t
  | [], met, _, _ => ⟨rfl, rfl⟩
  | c :: t, met, ho, hm => by
    have ho' : ShOk b t := fun x hx => ho x (by simp [hx])
    rw [List.map_cons]
    unfold metGo canonGo
    by_cases hc : c < 0
    · have hs : shC b c < 0 := by rw [sh_neg hc]; exact (ho c (by simp) hc).2
      rw [if_pos hs, if_pos hc, sh_idx hc hm]
      by_cases hin : c ∈ met
      · have hin' := (sh_mem (b := b) hc hm).mpr hin
        obtain ⟨h1, h2⟩ := sh_met t met ho' hm
        rw [if_neg (fun h => h.2 hin'), if_neg (fun h => h.2 hin), if_pos hin', if_pos hin]
        exact ⟨h1, by rw [h2]⟩
      · have hin' : shC b c ∉ met.map (shC b) := fun h => hin ((sh_mem hc hm).mp h)
        obtain ⟨h1, h2⟩ := sh_met t (met ++ [c]) ho' fun x hx => by
          rcases List.mem_append.mp hx with hx | hx
          · exact hm x hx
          · simp only [List.mem_singleton] at hx; subst hx; exact hc
        rw [List.map_append, List.map_singleton] at h1 h2
        rw [if_pos ⟨hs, hin'⟩, if_pos ⟨hc, hin⟩, if_neg hin', if_neg hin]
        exact ⟨h1, by rw [h2]⟩
    · obtain ⟨h1, h2⟩ := sh_met t met ho' hm
      rw [sh_pos hc, if_neg (fun h => hc h.1), if_neg (fun h => hc h.1), if_neg hc, if_neg hc]
      exact ⟨h1, by rw [h2]⟩
def shR (b : Int) (r : Ru) : Ru := (r.1.map (shC b), r.2.map (shC b))
theorem met_neg (t : List Int) : ∀ x ∈ metGo [] t, x < 0 := fun x hx => by
  rcases (mem_metGo t [] x).mp hx with h | h
  · cases h
  · exact h.2
theorem sh_vkey {b : Int} {r : Ru} (h1 : ShOk b r.1) (h2 : ShOk b r.2) : vkey (shR b r) = vkey r := by
  have a1 := sh_met r.1 [] h1 (by simp)
  have a2 := sh_met r.2 (metGo [] r.1) h2 (met_neg r.1)
  simp only [List.map_nil] at a1
  unfold vkey shR
  simp only [canonL]
  rw [a1.1, a1.2, a2.2]
theorem sh_scan {sg : Sg} {b : Int} {t : List Int} {n : Nat} (ho : ShOk b t) (hs : scan sg n t = 0) : scan sg n (t.map (shC b)) = 0 := by
  rw [← hs]
  refine scan_congr sg _ _ n (by simp) fun i x y hx hy => ?_
  rw [List.getElem?_map, hy] at hx
  simp only [Option.map_some, Option.some.injEq] at hx
  subst hx
  by_cases hc : y < 0
  · have h1 := ho y (List.mem_of_getElem? hy) hc
    have h2 := scan_codes sg t n hs y (List.mem_of_getElem? hy)
    rw [sh_neg hc]
    exact .inr ⟨h1.2, hc, h1.1, h2.1⟩
  · exact .inl (sh_pos hc)
theorem ruleE_mk {sig : List Sy} {r : Ru} (h1 : scan (S2 sig) 1 r.1 = 0) (h2 : scan (S2 sig) 1 r.2 = 0) (h3 : r.1.length ≤ 512) (h4 : r.2.length ≤ 512) (h5 : 0 ≤ r.1.headD 0) (h6 : ∀ v ∈ vars r.2, v ∈ vars r.1) : ruleE sig r = 0 := by
  rw [ruleE_rest h1 h2, if_neg (by omega), if_neg (by omega), if_pos]
  rw [List.all_eq_true]
  intro v hv
  exact decide_eq_true (h6 v hv)
theorem sh_rule {sig : List Sy} {b : Int} {r : Ru} (h : ruleE sig r = 0) (o1 : ShOk b r.1) (o2 : ShOk b r.2) : ruleE sig (shR b r) = 0 := by
  obtain ⟨h1, h2, h3, h4, h5, h6⟩ := ruleE_ok h
  refine ruleE_mk (sh_scan o1 h1) (sh_scan o2 h2) (by simpa [shR] using h3) (by simpa [shR] using h4) ?_ ?_
  · show 0 ≤ (r.1.map (shC b)).headD 0
    cases hr : r.1 with
    | nil => simp
    | cons c t =>
      rw [hr] at h5
      have h5 : 0 ≤ c := h5
      show 0 ≤ shC b c
      rw [sh_pos (by omega)]; exact h5
  · intro v hv
    obtain ⟨x, hx, hx0, rfl⟩ := mem_vars.mp hv
    obtain ⟨c, hc, rfl⟩ := List.mem_map.mp hx
    have hcn : c < 0 := by
      by_cases hcn : c < 0
      · exact hcn
      · rw [sh_pos hcn] at hx0; exact absurd hx0 hcn
    have hv2 : (-1 - c) ∈ vars r.2 := mem_vars.mpr ⟨c, hc, hcn, rfl⟩
    obtain ⟨d, hd, hdn, hde⟩ := mem_vars.mp (h6 _ hv2)
    have : d = c := by omega
    subst this
    exact mem_vars.mpr ⟨shC b d, List.mem_map_of_mem hd, hx0, rfl⟩
theorem right_mk {S : Sm} (h1 : plainE S.sig = 0) (h2 : S.rules.length ≤ 64) (h3 : ∀ r ∈ S.rules, ruleE S.sig r = 0) : rightS S = true := by
  unfold rightS chkSys
  rw [if_neg (by simpa using h1), if_neg (by omega), beq_iff_eq]
  have : ∀ (rs : List Ru) (i : Nat), (∀ r ∈ rs, ruleE S.sig r = 0) → (rulesE S.sig i rs).1 = 0 := by
    intro rs
    induction rs with
    | nil => intro i _; rfl
    | cons r rs ih =>
      intro i h
      unfold rulesE
      rw [if_neg (by simpa using h r (by simp))]
      exact ih (i + 1) fun x hx => h x (by simp [hx])
  exact this _ 0 h3
theorem same_mk {a b : Sm} (h1 : rightS a = true) (h2 : rightS b = true) (h3 : a.sig = b.sig) (h4 : (a.rules.map vkey).Perm (b.rules.map vkey)) : sameS a b = true := by
  have hl := h4.length_eq
  rw [List.length_map, List.length_map] at hl
  unfold sameS
  rw [h1, h2, decide_eq_true h3, decide_eq_true hl, List.isPerm_iff.mpr h4]; rfl
end Go.Proofs.YtnlhnlmnlfmojaaDoor.Am

namespace Go.Proofs.YtnlhnlmnlfmojaaDoor.Am
open Go Go.Proofs Sys Go.Lib
set_option linter.unusedVariables false
set_option linter.unusedSimpArgs false
set_option maxRecDepth 100000
variable {D : Orc} {T : H → Prop}

theorem BufK.pos {sz : Nat} {h0 h : H} {s : Value} {vs : List (List Value)} (r : BufK sz h0 h s vs) : (∀ v ∈ vs, v.length = sz) ∧ (((∃ a, s = .slice a 0 0) ∧ vs = []) ∨
    ∃ b off cap l, cap ≠ 0 ∧ h0 b = none ∧ s = .slice (some ⟨b, off, none⟩) vs.length cap ∧ h b = some (.cells l) ∧ vs.length ≤ cap ∧ off + cap * sz ≤ l.length ∧ (l.drop off).take (vs.length * sz) = vs.flatten) := by
  obtain ⟨he, h1 | ⟨b, off, cap, l, h1, rfl, h2, h3, h4, h5⟩⟩ := r
  · exact ⟨he, .inl h1⟩
  · refine ⟨he, ?_⟩
    by_cases hc : cap = 0
    · subst hc
      have : vs = [] := List.length_eq_zero_iff.mp (by omega)
      subst this
      exact .inl ⟨⟨_, rfl⟩, rfl⟩
    · exact .inr ⟨b, off, cap, l, hc, h1, rfl, h2, h3, h4, h5⟩
theorem BufK.self {sz : Nat} {h0 h : H} {s : Value} {vs : List (List Value)} (r : BufK sz h0 h s vs) : BufK sz (h.drop s) h s vs := by
  obtain ⟨he, ⟨a, h1⟩ | ⟨b, off, cap, l, hc, h1, rfl, h2⟩⟩ := r.pos
  · exact ⟨he, .inl ⟨a, h1⟩⟩
  · exact ⟨he, .inr ⟨b, off, cap, l, drop_here (Blk_some hc), rfl, h2⟩⟩
theorem BufK.but {sz : Nat} {h0 h h' : H} {s : Value} {vs : List (List Value)} (r : BufK sz h0 h s vs) (e : Keep h h' s) : BufK sz h0 h' s vs := by
  obtain ⟨he, ⟨a, h1⟩ | ⟨b, off, cap, l, hc, h1, rfl, h2, h3⟩⟩ := r.pos
  · exact ⟨he, .inl ⟨a, h1⟩⟩
  · exact ⟨he, .inr ⟨b, off, cap, l, h1, rfl, e _ _ (Blk_some hc) h2, h3⟩⟩
theorem BufK.blk {sz : Nat} {h0 h : H} {s : Value} {vs : List (List Value)} (r : BufK sz h0 h s vs) {d : Nat} (hd : Blk s = some d) : h0 d = none ∧ h d ≠ none := by
  obtain ⟨he, ⟨⟨a, rfl⟩, h1⟩ | ⟨b, off, cap, l, hc, h1, rfl, h2, h3⟩⟩ := r.pos
  · rw [Blk_nil] at hd; cases hd
  · rw [Blk_some hc] at hd; cases hd; exact ⟨h1, by rw [h2]; simp⟩
structure OwnK (h0 h : H) (s : Value) (vs : List (List Value)) : Prop where
  ext : Ext h0 h
  buf : BufK 2 (h.drop s) h s vs
  blk : ∀ d, Blk s = some d → h0 d = none
theorem OwnK.later {h0 h h' : H} {s : Value} {vs : List (List Value)} (o : OwnK h0 h s vs) (e : Ext h h') : OwnK h0 h' s vs := ⟨o.ext.trans e, (o.buf.ext e).self, o.blk⟩
theorem OwnK.push {h0 h : H} {s : Value} {vs : List (List Value)} (o : OwnK h0 h s vs) (hs : vs.length < 2 ^ 40) {v w : Value} (hv : one v = true) (hw : one w = true) {K : Value → H → Prop}
    (hK : ∀ s' h', OwnK h0 h' s' (vs ++ [[v, w]]) → (∀ d x, Blk s ≠ some d → h d = some x → h' d = some x) → (∀ d, Blk s' = some d → Blk s = some d ∨ h d = none) → K s' h') :
    newSl h 1 [v, w] (fun s68 h69 => slenW s68 (fun n70 => srcW h69 2 s68 (n70) (fun w71 => apW h69 2 48 [(Value.slice none 0 0), (Value.slice none 0 0)] s (n70) w71 (fun s72 h73 => K s72 h73)))) := by
  intro b hb'
  have hrow : RowK 2 (h.set b (.cells [v, w])) (.slice (some ⟨b, 0, none⟩) 1 1) [[v, w]] := RowK.cells set_here rfl (by simp) rfl
  show slenW (.slice (some ⟨b, 0, none⟩) 1 1) _
  rw [slenW_slice]
  refine hrow.src (by simp) ?_
  have hs' : vs.length < 1099511627776 := hs
  refine (o.buf.ext (Ext.new hb')).app ((Ext.drop h s).trans (Ext.new hb')) (us := [[v, w]]) rfl (by simp [hv, hw]) (by simp) (by simp) (by simp) (by simp; omega) (by simp; omega) fun s' h' r' e' => ?_
  have hkeep : ∀ d x, Blk s ≠ some d → h d = some x → h' d = some x := fun d x hd hx => e' d x (by rw [drop_away hd]; exact hx)
  have hnew : ∀ d, Blk s' = some d → Blk s = some d ∨ h d = none := fun d hd => by
    have := (r'.blk hd).1
    by_cases hx : Blk s = some d
    · exact .inl hx
    · rw [drop_away hx] at this; exact .inr this
  refine hK s' h' ⟨fun d x hx => ?_, r'.self, fun d hd => ?_⟩ hkeep hnew
  · refine hkeep d x (fun hb => ?_) (o.ext d x hx)
    rw [o.blk d hb] at hx; cases hx
  · rcases hnew d hd with h1 | h1
    · exact o.blk d h1
    · exact o.ext.free h1
theorem flat_set {sz : Nat} {vs : List (List Value)} {i : Nat} {u : List Value} (he : ∀ v ∈ vs, v.length = sz) (hu : u.length = sz) (hi : i < vs.length) : (vs.set i u).flatten = splice vs.flatten (i * sz) u := by
  rw [List.set_eq_take_append_cons_drop, if_pos hi, List.flatten_append, List.flatten_cons, ← flat_take i he, ← flat_drop (i + 1) he]
  unfold splice
  rw [hu, Nat.succ_mul]
theorem splice_part {l u : List Value} {off m o : Nat} (h1 : o + u.length ≤ m) (h2 : off + m ≤ l.length) : ((splice l (off + o) u).drop off).take m = splice ((l.drop off).take m) o u := by
  have hl : ((l.drop off).take m).length = m := by rw [List.length_take, List.length_drop]; omega
  apply List.ext_getElem?
  intro j
  rw [List.getElem?_take, List.getElem?_drop, getElem?_splice (by omega), getElem?_splice (by omega), List.getElem?_take, List.getElem?_drop]
  by_cases hj : j < m
  · rw [if_pos hj, if_pos hj]
    by_cases a1 : j < o
    · rw [if_pos (by omega), if_pos a1]
    · rw [if_neg (by omega), if_neg a1]
      by_cases a2 : j < o + u.length
      · rw [if_pos (by omega), if_pos a2]; congr 1; omega
      · rw [if_neg (by omega), if_neg a2]
  · rw [if_neg hj, if_neg (by omega), if_neg (by omega), if_neg hj]
theorem BufK.put2 {h0 h : H} {s : Value} {vs : List (List Value)} (r : BufK 2 h0 h s vs) {i : Nat} (hi : i < vs.length) {v w : Value} (hv : one v = true) (hw : one w = true) {U : Prop} (hU : U) {k : H → Prop}
    (hk : ∀ h', BufK 2 h0 h' s (vs.set i [v, w]) → (∀ d x, Blk s ≠ some d → h d = some x → h' d = some x) → k h') : slAtW s ((i : Nat) : Int) 2 (fun ad => U ∧ List.all [v, w] one = true ∧ ∃ h', wr h ad [v, w] = some h' ∧ k h') := by
  obtain ⟨he, ⟨⟨a, rfl⟩, h1⟩ | ⟨b, off, cap, l, hc, h1, rfl, h2, h3, h4, h5⟩⟩ := r.pos
  · subst h1; simp at hi
  · refine ⟨by omega, by omega, hU, by simp [hv, hw], h.set b (.cells (splice l (off + i * 2) [v, w])), ?_, hk _ ⟨fun u hu => ?_, .inr ⟨b, off, cap, _, h1, by simp, set_here, by simpa using h3, ?_, ?_⟩⟩ fun d x hd hx => ?_⟩
    · have e2 : (⟨b, off, none⟩ : Addr).add (Int.toNat (i : Int) * 2) = ⟨b, off + i * 2, none⟩ := by simp [Addr.add]
      rw [e2]
      simp only [wr, h2]
      rw [if_pos (by show off + i * 2 + 2 ≤ l.length; omega)]
    · rcases List.mem_or_eq_of_mem_set hu with hu | rfl
      · exact he u hu
      · rfl
    · rw [length_splice (by show off + i * 2 + 2 ≤ l.length; omega)]; exact h4
    · rw [List.length_set, splice_part (by show i * 2 + 2 ≤ vs.length * 2; omega) (by omega), h5, flat_set he rfl hi]
    · refine (set_away fun hh => hd ?_).trans hx
      subst hh; exact Blk_some hc
/-- Pairs make a row of rules. -/
theorem rr_pairs {h : H} {s : Value} {ps : List Pv} (r : RowK 2 h s (ruRow (ps.map (·.1)))) (hi : ∀ p ∈ ps, Ir h p.1.1 p.2.1 ∧ Ir h p.1.2 p.2.2) (hl : ps.length < 2 ^ 40) : Rr h s (ps.map (·.2)) := by
  refine ⟨⟨_, r, by simp, fun i v hv => ?_⟩, by simpa using hl⟩
  rw [List.getElem?_map, Option.map_eq_some_iff] at hv
  obtain ⟨p, hp, rfl⟩ := hv
  exact ⟨p.2, by rw [List.getElem?_map, hp]; rfl, hi p (List.mem_of_getElem? hp)⟩
/-- A system in the making: its cell, its rules. -/
structure KInv (h0 h : H) (pt : Nat) (sv tr : Value) (ps : List Pv) : Prop where
  own : OwnK h0 h tr (ruRow (ps.map (·.1)))
  cell : h pt = some (.cells [sv, tr])
  h0t : h0 pt = none
  off : Blk tr ≠ some pt
  rows : ∀ p ∈ ps, (Ir h p.1.1 p.2.1 ∧ Ir h p.1.2 p.2.2) ∧ ∀ d, (Blk p.1.1 = some d ∨ Blk p.1.2 = some d) → d ≠ pt ∧ Blk tr ≠ some d
theorem KInv.later {h0 h h' : H} {pt : Nat} {sv tr : Value} {ps : List Pv} (k : KInv h0 h pt sv tr ps) (e : Ext h h') : KInv h0 h' pt sv tr ps :=
  ⟨k.own.later e, e _ _ k.cell, k.h0t, k.off, fun p hp => ⟨⟨(k.rows p hp).1.1.ext e, (k.rows p hp).1.2.ext e⟩, (k.rows p hp).2⟩⟩
theorem ir_known {h : H} {v : Value} {l : List Int} (r : Ir h v l) {d : Nat} (hd : Blk v = some d) : h d ≠ none := r.row.known hd
/-- A rule more. -/
theorem KInv.push {h0 h : H} {pt : Nat} {sv tr : Value} {ps : List Pv} (q : KInv h0 h pt sv tr ps) (hs : ps.length < 2 ^ 40) {v w : Value} {x : Ru} (i1 : Ir h v x.1) (i2 : Ir h w x.2) (ho : ∀ d, (Blk v = some d ∨ Blk w = some d) → d ≠ pt ∧ Blk tr ≠ some d)
    {U : Prop} (hU : U) {K : H → Prop} (hK : ∀ tr' h', KInv h0 h' pt sv tr' (ps ++ [((v, w), x)]) → K h') :
    newSl h 1 [v, w] (fun s68 h69 => slenW s68 (fun n70 => srcW h69 2 s68 (n70) (fun w71 => apW h69 2 48 [(Value.slice none 0 0), (Value.slice none 0 0)] tr (n70) w71 (fun s72 h73 => ptrW (.pointer (some ⟨pt, 0, none⟩)) (fun ad74 => one s72 = true ∧ U ∧ ∃ h75, wr1 h73 (Addr.add ad74 1) s72 = some h75 ∧ K h75))))) := by
  refine q.own.push (by rw [ruRow_len, List.length_map]; exact hs) (ir_one i1) (ir_one i2) fun tr' h1 o hkeep hnew => ?_
  have hpt := hkeep pt _ q.off q.cell
  have hall : ∀ p ∈ ps ++ [((v, w), x)], (Ir h p.1.1 p.2.1 ∧ Ir h p.1.2 p.2.2) ∧ ∀ d, (Blk p.1.1 = some d ∨ Blk p.1.2 = some d) → d ≠ pt ∧ Blk tr ≠ some d := fun p hp => by
    rcases List.mem_append.mp hp with hp | hp
    · exact q.rows p hp
    · simp only [List.mem_singleton] at hp
      subst hp
      exact ⟨⟨i1, i2⟩, ho⟩
  have htp : Blk tr' ≠ some pt := fun hh => by
    rcases hnew pt hh with h2 | h2
    · exact q.off h2
    · rw [q.cell] at h2; cases h2
  have hone : one tr' = true := sl_one o.buf.row.isSl
  rw [ptrW_ptr]
  refine ⟨hone, hU, h1.set pt (.cells [sv, tr']), wr_cell (i := 1) hpt (by simp), ?_⟩
  have kp2 : ∀ s, Blk s ≠ some pt → Keep h1 (h1.set pt (.cells [sv, tr'])) s := fun s hs d y hd hy => by
    rw [set_away fun hh => hs (by rw [hd, hh])]; exact hy
  refine hK tr' _ ⟨⟨fun d y hy => ?_, ?_, o.blk⟩, set_here, q.h0t, htp, fun p hp => ?_⟩
  · rw [set_away fun hh => by subst hh; rw [q.h0t] at hy; cases hy]
    exact o.ext _ _ hy
  · rw [List.map_append]
    have e : ruRow (ps.map (·.1) ++ [((v, w), x)].map (·.1)) = ruRow (ps.map (·.1)) ++ [[v, w]] := by simp [ruRow]
    rw [e]
    exact (o.buf.but (kp2 _ htp)).self
  · obtain ⟨⟨a1, a2⟩, a3⟩ := hall p hp
    have hk1 : ∀ u, (u = p.1.1 ∨ u = p.1.2) → Keep h (h1.set pt (.cells [sv, tr'])) u := fun u hu d y hd hy => by
      have := a3 d (by rcases hu with rfl | rfl; exact .inl hd; exact .inr hd)
      rw [set_away this.1]
      exact hkeep d y this.2 hy
    refine ⟨⟨a1.kept (hk1 _ (.inl rfl)), a2.kept (hk1 _ (.inr rfl))⟩, fun d hd => ⟨(a3 d hd).1, fun hh => ?_⟩⟩
    rcases hnew d hh with h2 | h2
    · exact (a3 d hd).2 h2
    · rcases hd with hd | hd
      · exact ir_known a1 hd h2
      · exact ir_known a2 hd h2
/-- Two rules change their places. -/
theorem KInv.swap {h0 h : H} {pt : Nat} {sv tr : Value} {ps : List Pv} (q : KInv h0 h pt sv tr ps) {j k : Nat} (hj : j < ps.length) (hk : k < ps.length) {U1 U2 : Prop} (hU1 : U1) (hU2 : U2) {K : H → Prop}
    (hK : ∀ h', KInv h0 h' pt sv tr ((ps.set j ps[k]).set k ps[j]) → K h') :
    slAtW tr ((j : Nat) : Int) 2 (fun ad112 => U1 ∧ List.all [ps[k].1.1, ps[k].1.2] one = true ∧ ∃ h113, wr h ad112 [ps[k].1.1, ps[k].1.2] = some h113 ∧ (rd h113 (Addr.add ⟨pt, 0, none⟩ 1) = some tr) ∧
      slAtW tr ((k : Nat) : Int) 2 (fun ad114 => U2 ∧ List.all [ps[j].1.1, ps[j].1.2] one = true ∧ ∃ h115, wr h113 ad114 [ps[j].1.1, ps[j].1.2] = some h115 ∧ K h115)) := by
  have hrow : ∀ p ∈ ps, one p.1.1 = true ∧ one p.1.2 = true := fun p hp => ⟨ir_one (q.rows p hp).1.1, ir_one (q.rows p hp).1.2⟩
  have mj := List.getElem_mem hj
  have mk := List.getElem_mem hk
  have hln : (ruRow (ps.map (·.1))).length = ps.length := by rw [ruRow_len, List.length_map]
  refine q.own.buf.put2 (i := j) (by omega) (hrow _ mk).1 (hrow _ mk).2 hU1 fun h1 b1 keep1 => ?_
  refine ⟨rd_cell (i := 1) (keep1 _ _ q.off q.cell) rfl, ?_⟩
  refine b1.put2 (i := k) (by rw [List.length_set]; omega) (hrow _ mj).1 (hrow _ mj).2 hU2 fun h2 b2 keep2 => ?_
  have keep : ∀ d x, Blk tr ≠ some d → h d = some x → h2 d = some x := fun d x hd hx => keep2 d x hd (keep1 d x hd hx)
  have hperm := List.set_set_perm hj hk
  refine hK h2 ⟨⟨fun d x hx => ?_, ?_, q.own.blk⟩, keep _ _ q.off q.cell, q.h0t, q.off, fun p hp => ?_⟩
  · exact keep d x (fun hh => by rw [q.own.blk d hh] at hx; cases hx) (q.own.ext _ _ hx)
  · have e : ruRow (((ps.set j ps[k]).set k ps[j]).map (·.1)) = ((ruRow (ps.map (·.1))).set j [ps[k].1.1, ps[k].1.2]).set k [ps[j].1.1, ps[j].1.2] := by
      unfold ruRow
      simp only [List.map_set]
    rw [e]
    exact b2.self
  · obtain ⟨⟨a1, a2⟩, a3⟩ := q.rows p (hperm.mem_iff.mp hp)
    exact ⟨⟨a1.kept fun d x hd hx => keep d x (a3 d (.inl hd)).2 hx, a2.kept fun d x hd hx => keep d x (a3 d (.inr hd)).2 hx⟩, a3⟩
end Go.Proofs.YtnlhnlmnlfmojaaDoor.Am

namespace Go.Proofs.YtnlhnlmnlfmojaaDoor.Am
open Go Go.Proofs Sys Go.Lib
set_option linter.unusedVariables false
set_option linter.unusedSimpArgs false
set_option maxRecDepth 100000
variable {D : Orc} {T : H → Prop}

/-- The rules that were made so far are those of the system, moved. -/
structure Moved (sig : List Sy) (rs : List Ru) (ps : List Pv) : Prop where
  keys : ps.map (fun p => vkey p.2) = rs.map vkey
  ok : ∀ p ∈ ps, ruleE sig p.2 = 0
theorem make_loop (c18 : Cl18 D) {tv sa ra sv : Value} {sig : List Sy} {rules : List Ru} {pa pt : Nat} {by_ : Int} {h0 : H} (hpa : h0 pa = some (.cells [sa, ra])) (rr : Rr h0 ra rules) (hl64 : rules.length ≤ 64) (hok : ∀ r ∈ rules, ruleE sig r = 0) (hby : inI by_)
    {K : Kl} {I : List Value → H → Prop} (hI : ∀ a0 a1 a2 a3 a4 h, round5_7 D I K a0 a1 a2 a3 a4 h → I [a0, a1, a2, a3, a4] h)
    (hK : ∀ tr ps h, KInv h0 h pt sv tr ps → Moved sig rules ps → K (.e 0) [tv, .pointer (some ⟨pa, 0, none⟩), .pointer (some ⟨pt, 0, none⟩)] h) :
    ∀ (m i : Nat) (tr : Value) (ps : List Pv) (h : H), rules.length - i ≤ m → i ≤ rules.length → KInv h0 h pt sv tr ps → Moved sig (rules.take i) ps → I [tv, .int .i64 by_, .pointer (some ⟨pa, 0, none⟩), .pointer (some ⟨pt, 0, none⟩), .int .i64 ((i : Nat) : Int)] h := by
  intro m
  induction m with
  | zero =>
    intro i tr ps h hm hi q mv
    refine hI _ _ _ _ _ _ ?_
    unfold round5_7
    rw [intK_int, intK_int, ptrW_ptr]
    refine ⟨ra, rd_cell (i := 1) (q.own.ext _ _ hpa) rfl, ?_⟩
    rw [(rr.ext q.own.ext).len_, cond_dec]
    refine ⟨fun hlt => by omega, fun _ => ?_⟩
    rw [List.take_of_length_le (by omega)] at mv
    exact hK tr ps h q mv
  | succ m ih =>
    intro i tr ps h hm hi q mv
    refine hI _ _ _ _ _ _ ?_
    unfold round5_7
    rw [intK_int, intK_int, ptrW_ptr]
    refine ⟨ra, rd_cell (i := 1) (q.own.ext _ _ hpa) rfl, ?_⟩
    rw [(rr.ext q.own.ext).len_, cond_dec]
    refine ⟨fun hlt => ?_, fun _ => ?_⟩
    · have hpl : ps.length = i := by
        have := congrArg List.length mv.keys
        rw [List.length_map, List.length_map, List.length_take] at this; omega
      rw [ptrW_ptr]
      refine ⟨ra, rd_cell (i := 1) (q.own.ext _ _ hpa) rfl, ?_⟩
      refine (rr.at_ (by omega) (by omega) fun ad v w x hx _ hr0 hr1 i1 j1 => ?_)
      rw [Int.toNat_natCast] at hx
      have hxo := hok x (List.mem_of_getElem? hx)
      have htk := (split_at hx).2.1
      refine ⟨v, rd_ext q.own.ext hr0, ?_⟩
      -- a rule is put
      have hput : ∀ (tr' : Value) (h3 : H) (v' w' : Value) (y : Ru), KInv h0 h3 pt sv tr' ps → Ir h3 v' y.1 → Ir h3 w' y.2 → (∀ d, (Blk v' = some d ∨ Blk w' = some d) → d ≠ pt ∧ Blk tr' ≠ some d) → vkey y = vkey x → ruleE sig y = 0 →
          j5_7_14 D I K tv (.int .i64 by_) (.pointer (some ⟨pa, 0, none⟩)) (.pointer (some ⟨pt, 0, none⟩)) (.int .i64 ((i : Nat) : Int)) v' w' h3 := by
        intro tr' h3 v' w' y q3 a1 a2 ho hkey hye
        unfold j5_7_14
        rw [intK_int, intK_int, ptrW_ptr]
        refine ⟨tr', rd_cell (i := 1) q3.cell rfl, ir_one a1, by decide, ir_one a2, by decide, by trivial, by decide, ?_⟩
        refine q3.push (by omega) a1 a2 ho (by trivial) fun tr2 h4 q4 => ?_
        rw [i64_id (by omega) (by omega)]
        refine ih (i + 1) tr2 _ h4 (by omega) (by omega) q4 ⟨?_, fun p hp => ?_⟩
        · rw [htk, List.map_append, List.map_append, mv.keys]
          simp only [List.map_cons, List.map_nil]
          rw [hkey]
        · rcases List.mem_append.mp hp with hp | hp
          · exact mv.ok p hp
          · simp only [List.mem_singleton] at hp
            subst hp; exact hye
      -- the flag
      have flag : ∀ (h3 : H) (v' w' : Value) (f : Bool), KInv h0 h3 pt sv tr ps → (f = false → Ir h3 v' (x.1.map (shC by_)) ∧ Ir h3 w' (x.2.map (shC by_)) ∧ ShOk by_ x.1 ∧ ShOk by_ x.2 ∧ ∀ d, (Blk v' = some d ∨ Blk w' = some d) → d ≠ pt ∧ Blk tr ≠ some d) →
          j5_7_12 D I K tv (.int .i64 by_) (.pointer (some ⟨pa, 0, none⟩)) (.pointer (some ⟨pt, 0, none⟩)) (.int .i64 ((i : Nat) : Int)) v' w' (.bool f) h3 := by
        intro h3 v' w' f q3 hf
        unfold j5_7_12
        rw [intK_int, intK_int, boolW_bool, cond_split]
        refine ⟨fun _ => ?_, fun hff => ?_⟩
        · rw [ptrW_ptr]
          refine ⟨ra, rd_cell (i := 1) (q3.own.ext _ _ hpa) rfl, ?_⟩
          refine rr.at_ (by omega) (by omega) fun ad2 v2 w2 x2 hx2 _ hr2 hr2' i2 j2 => ⟨v2, rd_ext q3.own.ext hr2, ?_⟩
          rw [Int.toNat_natCast, hx] at hx2
          cases hx2
          rw [ptrW_ptr]
          refine ⟨ra, rd_cell (i := 1) (q3.own.ext _ _ hpa) rfl, ?_⟩
          refine rr.at_ (by omega) (by omega) fun ad3 v3 w3 x3 hx3 _ hr3 hr3' i3 j3 => ⟨w3, rd_ext q3.own.ext hr3', ?_⟩
          rw [Int.toNat_natCast, hx] at hx3
          cases hx3
          refine hput tr h3 v2 w3 x q3 (i2.ext q3.own.ext) (j3.ext q3.own.ext) (fun d hd => ?_) rfl hxo
          have hk : h0 d ≠ none := by
            rcases hd with hd | hd
            · exact ir_known i2 hd
            · exact ir_known j3 hd
          exact ⟨fun hh => hk (by rw [hh]; exact q3.h0t), fun hh => hk (q3.own.blk d hh)⟩
        · obtain ⟨a1, a2, o1, o2, ho⟩ := hf hff
          exact hput tr h3 v' w' (shR by_ x) q3 a1 a2 ho (sh_vkey o1 o2) (sh_rule hxo o1 o2)
      have known : ∀ (h3 : H), KInv h0 h3 pt sv tr ps → ∀ d, h3 d = none → d ≠ pt ∧ Blk tr ≠ some d := fun h3 q3 d hd =>
        ⟨fun hh => (by subst hh; rw [q3.cell] at hd; cases hd), fun hh => (q3.own.buf.blk hh).2 hd⟩
      -- the left side, moved
      have right : ∀ (h3 : H) (v' : Value) (e1 : Int), KInv h0 h3 pt sv tr ps → (e1 = 0 → Ir h3 v' (x.1.map (shC by_)) ∧ ShOk by_ x.1 ∧ ∀ d, Blk v' = some d → d ≠ pt ∧ Blk tr ≠ some d) →
          ptrW (.pointer (some ⟨pa, 0, none⟩)) (fun ad43 => ∃ v44 : Value, rd h3 (Addr.add ad43 1) = some v44 ∧ slAtW v44 ((i : Nat) : Int) 2 (fun ad45 => ∃ v46 : Value, rd h3 (Addr.add ad45 1) = some v46 ∧ D 18 [v46, (Value.int IntKind.i64 by_)] h3 (fun v47 h48 => ∃ v49 : Value, ∃ x50 : Int, v47 = (Value.tuple #[v49, (Value.int IntKind.i64 x50)]) ∧ cond (!(e1 != (0 : Int))) (
            j5_7_12 D I K tv (Value.int IntKind.i64 by_) (.pointer (some ⟨pa, 0, none⟩)) (.pointer (some ⟨pt, 0, none⟩)) (Value.int IntKind.i64 ((i : Nat) : Int)) v' v49 (Value.bool (x50 != (0 : Int))) h48) (
            j5_7_12 D I K tv (Value.int IntKind.i64 by_) (.pointer (some ⟨pa, 0, none⟩)) (.pointer (some ⟨pt, 0, none⟩)) (Value.int IntKind.i64 ((i : Nat) : Int)) v' v49 (Value.bool true) h48)) (fun c h => K (X.p c) [] h))) := by
        intro h3 v' e1 q3 hv
        rw [ptrW_ptr]
        refine ⟨ra, rd_cell (i := 1) (q3.own.ext _ _ hpa) rfl, ?_⟩
        refine rr.at_ (by omega) (by omega) fun ad3 v3 w3 x3 hx3 _ hr3 hr3' i3 j3 => ⟨w3, rd_ext q3.own.ext hr3', ?_⟩
        rw [Int.toNat_natCast, hx] at hx3
        cases hx3
        refine spec18 c18 (j3.ext q3.own.ext) hby (fun h4 e4 => ⟨_, _, rfl, ?_⟩) (fun w' h4 e4 iw fw ow => ⟨_, _, rfl, ?_⟩)
        · rw [cond_not, cond_ne]
          refine ⟨fun _ => flag h4 _ _ true (q3.later e4) (fun h => (by cases h)), fun _ => flag h4 _ _ _ (q3.later e4) (fun h => (by simp at h))⟩
        · rw [cond_not, cond_ne]
          refine ⟨fun _ => flag h4 _ _ true (q3.later e4) (fun h => (by cases h)), fun hz => flag h4 _ _ _ (q3.later e4) fun _ => ?_⟩
          obtain ⟨a1, a2, a3⟩ := hv hz
          refine ⟨a1.ext e4, iw, a2, ow, fun d hd => ?_⟩
          rcases hd with hd | hd
          · exact a3 d hd
          · exact known h3 q3 d (fw d hd)
      refine spec18 c18 (i1.ext q.own.ext) hby (fun h2 e2 => ⟨_, _, rfl, ?_⟩) (fun v' h2 e2 iv fv ov => ⟨_, _, rfl, ?_⟩)
      · exact right h2 _ 40 (q.later e2) fun h => by omega
      · exact right h2 v' 0 (q.later e2) fun _ => ⟨iv, ov, fun d hd => known h q d (fv d hd)⟩
    · rw [List.take_of_length_le (by omega)] at mv
      exact hK tr ps h q mv
/-- The rules change their places. -/
theorem turn_loop {tv sv pav : Value} {pt : Nat} {tl : List Int} {h0 : H} (it : Ir h0 tv tl) {N : Nat} {ks : List (List (List Int))} {sig : List Sy} {K : Kl} {I : List Value → H → Prop} (hN : N ≤ 64)
    (hI : ∀ a0 a1 a2 a3 h, round5_16 D I K a0 a1 a2 a3 h → I [a0, a1, a2, a3] h)
    (hK : ∀ tr ps h, KInv h0 h pt sv tr ps → (ps.map fun p => vkey p.2).Perm ks → (∀ p ∈ ps, ruleE sig p.2 = 0) → ps.length = N → K (.e 2) [pav, .pointer (some ⟨pt, 0, none⟩)] h) :
    ∀ (m i : Nat) (tr : Value) (ps : List Pv) (h : H), tl.length - i ≤ m → i ≤ tl.length → KInv h0 h pt sv tr ps → (ps.map fun p => vkey p.2).Perm ks → (∀ p ∈ ps, ruleE sig p.2 = 0) → ps.length = N →
      I [tv, pav, .pointer (some ⟨pt, 0, none⟩), .int .i64 ((i : Nat) : Int)] h := by
  have hl := it.len
  intro m
  induction m with
  | zero =>
    intro i tr ps h hm hi q pm hok hln
    refine hI _ _ _ _ _ ?_
    unfold round5_16
    rw [intK_int, (it.ext q.own.ext).len_, cond_dec]
    exact ⟨fun hlt => by omega, fun _ => hK tr ps h q pm hok hln⟩
  | succ m ih =>
    intro i tr ps h hm hi q pm hok hln
    refine hI _ _ _ _ _ ?_
    unfold round5_16
    rw [intK_int, (it.ext q.own.ext).len_, cond_dec]
    refine ⟨fun hlt => ?_, fun _ => hK tr ps h q pm hok hln⟩
    have hrr := rr_pairs q.own.buf.row (fun p hp => (q.rows p hp).1) (by omega)
    rw [ptrW_ptr]
    refine ⟨tr, rd_cell (i := 1) q.cell rfl, ?_⟩
    rw [hrr.len_, List.length_map, cond_dec]
    refine ⟨fun hpos => ?_, fun _ => hK tr ps h q pm hok hln⟩
    have hn0 : 0 < ps.length := by omega
    refine (it.ext q.own.ext).at_ (by omega) (by omega) fun a1 x hx hxi hr1 => ⟨x, hr1, ?_⟩
    unfold inI at hxi
    have body : ∀ k : Nat, j5_16_21 D I K tv pav (.pointer (some ⟨pt, 0, none⟩)) (.int .i64 ((i : Nat) : Int)) (.int .i64 ((k : Nat) : Int)) h := by
      intro k
      unfold j5_16_21
      have hk : k % ps.length < ps.length := Nat.mod_lt _ hn0
      have hj : i % ps.length < ps.length := Nat.mod_lt _ hn0
      rw [intK_int, intK_int, ptrW_ptr]
      refine ⟨tr, rd_cell (i := 1) q.cell rfl, ?_⟩
      rw [hrr.len_, List.length_map]
      refine ⟨by omega, ?_⟩
      rw [ptrW_ptr]
      refine ⟨tr, rd_cell (i := 1) q.cell rfl, ?_⟩
      rw [hrr.len_, List.length_map]
      refine ⟨by omega, ?_⟩
      rw [ptrW_ptr]
      refine ⟨tr, rd_cell (i := 1) q.cell rfl, ?_⟩
      rw [ptrW_ptr]
      refine ⟨tr, rd_cell (i := 1) q.cell rfl, ?_⟩
      rw [ptrW_ptr]
      refine ⟨tr, rd_cell (i := 1) q.cell rfl, ?_⟩
      rw [← Int.ofNat_tmod, ← Int.ofNat_tmod]
      have rdp : ∀ (g : Nat) (hg : g < ps.length) {Φ : Addr → Prop}, (∀ a, rdN h a 2 = some [ps[g].1.1, ps[g].1.2] → Φ a) → slAtW tr ((g : Nat) : Int) 2 Φ := by
        intro g hg Φ hΦ
        refine q.own.buf.row.at_ (by omega) (by rw [ruRow_len, List.length_map]; omega) fun a v hv hrd _ => ?_
        rw [Int.toNat_natCast] at hv
        simp only [ruRow, List.map_map, List.getElem?_map, List.getElem?_eq_getElem hg, Option.map_some, Option.some.injEq] at hv
        subst hv
        exact hΦ a hrd
      refine rdp _ hk fun a2 hr2 => ⟨_, _, hr2, ?_⟩
      rw [ptrW_ptr]
      refine ⟨tr, rd_cell (i := 1) q.cell rfl, ?_⟩
      refine rdp _ hj fun a3 hr3 => ⟨_, _, hr3, ?_⟩
      refine q.swap hj hk (by trivial) (by trivial) fun h2 q2 => ?_
      rw [i64_id (by omega) (by omega)]
      have hperm := List.set_set_perm hj hk
      exact ih (i + 1) tr _ h2 (by omega) (by omega) q2 ((hperm.map _).trans pm) (fun p hp => hok p (hperm.mem_iff.mp hp)) (by simpa using hln)
    rw [cond_dec]
    refine ⟨fun hneg => ?_, fun hpos2 => ?_⟩
    · rw [i64_id (n := x + 1) (by omega) (by omega), i64_id (by omega) (by omega)]
      obtain ⟨k, hk⟩ := Int.eq_ofNat_of_zero_le (show 0 ≤ 0 - (x + 1) by omega)
      rw [hk]; exact body k
    · obtain ⟨k, hk⟩ := Int.eq_ofNat_of_zero_le (show 0 ≤ x by omega)
      rw [hk]; exact body k
theorem less_not {a b : Sm} (h : a.rules.length ≠ b.rules.length) : sameS a b = false := by
  unfold sameS
  rw [decide_eq_false h]; simp
theorem kinds_end (s15 : SpecSame D 15 T) {sa ra : Value} {S : Sm} {pa : Nat} {h : H} {k : Kv} {kp : Kp} (hpa : h pa = some (.cells [sa, ra])) (r1 : Sr h sa S.sig) (r2 : Rr h ra S.rules) (hT : Stays T) (ht : T h) (hk : ∀ h', Ext h h' → k (.bool true) h') :
    j5__28 D k kp (.pointer (some ⟨pa, 0, none⟩)) (.bool false) h := by
  unfold j5__28
  rw [boolW_bool, cond_false, ptrW_ptr]
  refine ⟨ra, rd_cell (i := 1) hpa rfl, ?_⟩
  rw [r2.len_, cond_eq]
  refine ⟨fun _ => hk h (Ext.refl _), fun hne => ?_⟩
  have hpos : 0 < S.rules.length := by omega
  rw [ptrW_ptr]
  refine ⟨sa, rd_cell (i := 0) hpa rfl, ?_⟩
  rw [ptrW_ptr]
  refine ⟨ra, rd_cell (i := 1) hpa rfl, ?_⟩
  obtain ⟨ps, g1, g2, g3⟩ := r2.pairs
  have hpl : ps.length = S.rules.length := by rw [← g2, List.length_map]
  refine g1.cut (i := 1) (j := ps.length) rfl (by rw [ruRow_len, List.length_map]; rfl) (by omega) (by rw [ruRow_len, List.length_map]; omega) fun s' hs' _ => ?_
  have hlen40 := r2.len
  have hrow : RowK 2 h s' (ruRow ((ps.drop 1).map (·.1))) := by
    have e : ((ruRow (ps.map (·.1))).take ps.length).drop 1 = ruRow ((ps.drop 1).map (·.1)) := by
      rw [List.take_of_length_le (by rw [ruRow_len, List.length_map]; omega)]
      simp [ruRow, List.map_drop]
    rw [← e]; exact hs'
  have hless : Rr h s' ((ps.drop 1).map (·.2)) := rr_pairs hrow (fun p hp => g3 p (List.mem_of_mem_drop hp)) (by rw [List.length_drop]; omega)
  have hln : ((ps.drop 1).map (·.2)).length ≠ S.rules.length := by rw [List.length_map, List.length_drop]; omega
  refine ⟨sl_one r1.row.isSl, by decide, sl_one hs'.isSl, by decide, ?_⟩
  refine two_rule (sl_one r1.row.isSl) (sl_one hs'.isSl) (by trivial) fun pl h1 _ hpl1 e1 => ?_
  rw [ptrW_ptr]
  refine ⟨sa, ra, rd2 (e1 _ _ hpa), ?_⟩
  rw [ptrW_ptr]
  refine ⟨sa, s', rd2 hpl1, ?_⟩
  have hsS : Ss h1 (.agg #[sa, ra]) S := ⟨⟨sa, ra, rfl, r1.ext e1, r2.ext e1⟩⟩
  have hsL : Ss h1 (.agg #[sa, s']) ⟨S.sig, (ps.drop 1).map (·.2)⟩ := ⟨⟨sa, s', rfl, r1.ext e1, hless.ext e1⟩⟩
  refine s15 _ _ S ⟨S.sig, (ps.drop 1).map (·.2)⟩ _ _ _ hsS hsL (hT _ _ e1 ht) fun h2 e2 => ⟨_, rfl, ?_⟩
  rw [ptrW_ptr]
  refine ⟨sa, s', rd2 (e2 _ _ hpl1), ?_⟩
  rw [ptrW_ptr]
  refine ⟨sa, ra, rd2 (e2 _ _ (e1 _ _ hpa)), ?_⟩
  refine s15 _ _ ⟨S.sig, (ps.drop 1).map (·.2)⟩ S _ _ _ (hsL.ext e2) (hsS.ext e2) (hT _ _ (e1.trans e2) ht) fun h3 e3 => ⟨_, rfl, ?_⟩
  rw [less_not (fun h => hln h.symm), less_not hln]
  exact hk h3 ((e1.trans e2).trans e3)
theorem spec5 (hT : Stays T) (c : Cl5 D) (c18 : Cl18 D) (s9 : ∀ {h : H} {k : Kv} {kp : Kp}, T h → (∀ h', Ext h h' → k (.bool true) h') → D 9 [] h k kp) (s17 : SpecRightS D 17 T) (s15 : SpecSame D 15 T)
    {v tv : Value} {S : Sm} {tl : List Int} {by_ : Int} {h : H} {k : Kv} {kp : Kp} (q : Ss h v S) (it : Ir h tv tl) (hby : inI by_) (ht : T h) (hk : ∀ h', Ext h h' → k (.bool true) h') : D 5 [v, tv, .int .i64 by_] h k kp := by
  obtain ⟨sa, ra, rfl, r1, r2⟩ := q.ex
  refine c _ _ _ _ _ _ ?_
  unfold F5
  rw [intK_int, aggW_agg]
  intro pa hpa
  have e1 : Ext h (h.set pa (.cells #[sa, ra].toList)) := Ext.new hpa
  have b1 : (h.set pa (.cells #[sa, ra].toList)) pa = some (.cells [sa, ra]) := set_here
  generalize h.set pa (.cells #[sa, ra].toList) = h1 at e1 b1 ⊢
  refine s9 (hT _ _ e1 ht) fun h2 e2 => ⟨_, rfl, ?_⟩
  have f2 := e1.trans e2
  rw [ptrW_ptr]
  refine ⟨sa, ra, rd2 (e2 _ _ b1), ?_⟩
  refine s17 _ S _ _ _ (q.ext f2) (hT _ _ f2 ht) fun h3 e3 => ⟨_, rfl, ?_⟩
  have f3 := f2.trans e3
  have b3 := (e2.trans e3) _ _ b1
  rw [Bool.not_true, Bool.not_false, cond_true]
  unfold j5__4
  rw [intK_int, boolW_bool, boolW_bool, cond_split]
  refine ⟨fun _ => hk h3 f3, fun hr => ?_⟩
  have hright : rightS S = true := by simpa using hr
  obtain ⟨hpl, hsig, hl64, hok⟩ := right_ok hright
  intro q1 hq1
  have e4 : Ext h3 (h3.set q1 (.cells [])) := Ext.new hq1
  show ptrW (.pointer (some ⟨pa, 0, none⟩)) _
  rw [ptrW_ptr]
  refine ⟨sa, rd_cell (i := 0) (e4 _ _ b3) rfl, ?_⟩
  have rs3 := r1.ext f3
  rw [(rs3.row.ext e4).slen]
  refine (rs3.row.ext e4).src (Nat.le_refl _) ?_
  rw [List.take_length]
  have hsl := r1.len
  refine (BufK.cells (sz := 2) (h0 := h3) (n := 0) (vs := []) hq1 set_here rfl (by simp) rfl).app e4 (us := sgRow S.sig) rfl ?_ rs3.row.each rfl rfl ?_ ?_ fun sv h5 rb e5 => ?_
  · rw [List.all_eq_true]
    intro x hx
    rw [List.mem_flatten] at hx
    obtain ⟨l, hl', hx⟩ := hx
    simp only [sgRow, List.mem_map] at hl'
    obtain ⟨y, hy, rfl⟩ := hl'
    simp only [cellsOf, List.mem_cons, List.not_mem_nil, or_false] at hx
    rcases hx with rfl | rfl <;> rfl
  · rw [sgRow_len]
    have := (plain_ok hpl).2
    simp only [List.length_nil]; omega
  · rw [sgRow_len]
    have := (plain_ok hpl).2
    simp only [List.length_nil]; omega
  have f5 := f3.trans e5
  have hsv : Sr h5 sv S.sig := ⟨by simpa using rb.row, r1.len, r1.names⟩
  refine ⟨sl_one hsv.row.isSl, by decide, ?_⟩
  refine two_rule (sl_one hsv.row.isSl) rfl (by trivial) fun pt h6 hpt0 hpt e6 => ?_
  have q0 : KInv h5 h6 pt sv (.slice none 0 0) [] := ⟨⟨e6, BufK.nil_, fun d hd => by rw [Blk_nil] at hd; cases hd⟩, hpt, hpt0, by rw [Blk_nil]; simp, by simp⟩
  intro I hI
  refine make_loop c18 (sig := S.sig) (e5 _ _ b3) (r2.ext f5) hl64 hok hby hI (fun tr ps h7 q7 mv => ?_) S.rules.length 0 _ [] h6 (by omega) (by omega) q0 ⟨rfl, by simp⟩
  rw [xs_e]
  show cond (Nat.beq 0 0) _ False
  simp only [cond_true, Nat.beq, nth0, nth1, nth2]
  have hpsl : ps.length = S.rules.length := by
    have := congrArg List.length mv.keys
    simpa using this
  intro I2 hI2
  refine turn_loop (it.ext f5) (N := S.rules.length) (ks := S.rules.map vkey) (sig := S.sig) hl64 hI2 (fun tr2 ps2 h8 q8 pm ok2 ln2 => ?_) tl.length 0 tr ps h7 (by omega) (by omega) q7 (by rw [mv.keys]) mv.ok hpsl
  rw [xs_e]
  show cond (Nat.beq 2 2) _ False
  simp only [cond_true, Nat.beq, nth0, nth1]
  have f8 := f5.trans q8.own.ext
  have b8 := q8.own.ext _ _ (e5 _ _ b3)
  have hS : Ss h8 (.agg #[sa, ra]) S := q.ext f8
  have hTr : Rr h8 tr2 (ps2.map (·.2)) := rr_pairs q8.own.buf.row (fun p hp => (q8.rows p hp).1) (by omega)
  have hT2 : Ss h8 (.agg #[sv, tr2]) ⟨S.sig, ps2.map (·.2)⟩ := ⟨⟨sv, tr2, rfl, hsv.ext q8.own.ext, hTr⟩⟩
  have hrT : rightS ⟨S.sig, ps2.map (·.2)⟩ = true := right_mk hpl (by simpa [ln2] using hl64) fun r hr => by
    obtain ⟨p, hp, rfl⟩ := List.mem_map.mp hr
    exact ok2 p hp
  have hkeys : ((ps2.map (·.2)).map vkey).Perm (S.rules.map vkey) := by rw [List.map_map]; exact pm
  have x1 : sameS S S = true := same_mk hright hright rfl (List.Perm.refl _)
  have x2 : sameS S ⟨S.sig, ps2.map (·.2)⟩ = true := same_mk hright hrT rfl hkeys.symm
  have x3 : sameS ⟨S.sig, ps2.map (·.2)⟩ S = true := same_mk hrT hright rfl hkeys
  rw [ptrW_ptr]
  refine ⟨sa, ra, rd2 b8, ?_⟩
  rw [ptrW_ptr]
  refine ⟨sa, ra, rd2 b8, ?_⟩
  refine s15 _ _ S S _ _ _ hS hS (hT _ _ f8 ht) fun h9 e9 => ⟨_, rfl, ?_⟩
  rw [ptrW_ptr]
  refine ⟨sa, ra, rd2 (e9 _ _ b8), ?_⟩
  rw [ptrW_ptr]
  refine ⟨sv, tr2, rd2 (e9 _ _ q8.cell), ?_⟩
  refine s15 _ _ S ⟨S.sig, ps2.map (·.2)⟩ _ _ _ (hS.ext e9) (hT2.ext e9) (hT _ _ (f8.trans e9) ht) fun h10 e10 => ⟨_, rfl, ?_⟩
  have e910 := e9.trans e10
  rw [ptrW_ptr]
  refine ⟨sv, tr2, rd2 (e910 _ _ q8.cell), ?_⟩
  rw [ptrW_ptr]
  refine ⟨sa, ra, rd2 (e910 _ _ b8), ?_⟩
  refine s15 _ _ ⟨S.sig, ps2.map (·.2)⟩ S _ _ _ (hT2.ext e910) (hS.ext e910) (hT _ _ (f8.trans e910) ht) fun h11 e11 => ⟨_, rfl, ?_⟩
  rw [x1, x2, x3]
  simp only [Bool.not_true, Bool.not_false, cond_true]
  have f11 := f8.trans (e910.trans e11)
  exact kinds_end s15 ((e910.trans e11) _ _ b8) (r1.ext f11) (r2.ext f11) hT (hT _ _ f11 ht) fun h' e' => hk h' (f11.trans e')
end Go.Proofs.YtnlhnlmnlfmojaaDoor.Am
