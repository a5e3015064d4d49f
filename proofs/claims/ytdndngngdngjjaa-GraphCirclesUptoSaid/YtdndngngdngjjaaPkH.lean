/-
  Packed: The statements' helpers: same, home, edge, copied. Ways by tables, and the document's parts. The document's parts. The example; the first law. The first law: the parts of every graph are those of the definition.
-/
import Derived.Test.YtdndngngdngjjaaPkG
namespace Go.Proofs.Ytdndngngdngjjaa.Am
open Go Go.Proofs Gr
set_option linter.unusedVariables false
set_option linter.unusedSimpArgs false
set_option maxRecDepth 100000
variable {D : Orc}

theorem down_ind {P : Nat → Prop} (n : Nat) (step : ∀ j, j ≤ n → (j < n → P (j + 1)) → P j) : ∀ j, j ≤ n → P j := by
  have key : ∀ m j, n - j ≤ m → j ≤ n → P j := by
    intro m
    induction m with
    | zero => exact fun j h1 h2 => step j h2 fun h3 => by omega
    | succ m ih => exact fun j h1 h2 => step j h2 fun h3 => ih (j + 1) (by omega) (by omega)
  exact fun j hj => key n j (by omega) hj
/-- Rows of numbers, each in a block of its own. -/
def OwR (h h' : H) (v : Value) (ls : List (List Int)) : Prop := ∃ Q : List (Value × List Int), ls = Q.map (·.2) ∧ Hp h h' (bufR v (Q.map (·.1)) :: Q.map fun x => bufR x.1 (Z x.2))
theorem PsR.ow {h h' : H} {v : Value} {ps : List (List Nat)} (r : PsR h h' v ps) : OwR h h' v (ps.map toI) := by
  obtain ⟨Q, rfl, o⟩ := r
  refine ⟨Q.map fun x => (x.1, toI x.2), by simp, ?_⟩
  have e : inn Q = (Q.map fun x => (x.1, toI x.2)).map fun x => bufR x.1 (Z x.2) := by
    unfold inn
    rw [List.map_map]
    apply List.map_congr_left
    intro x _
    simp [ZN_Z]
  rw [e] at o
  have e2 : Q.map (·.1) = (Q.map fun x => (x.1, toI x.2)).map (·.1) := by rw [List.map_map]; rfl
  rw [e2] at o
  exact o
def okRows (ls : List (List Int)) : Prop := ∀ l ∈ ls, l.length < 2 ^ 40 ∧ ∀ x ∈ l, inI x
theorem OwR.rw {h h' : H} {v : Value} {ls : List (List Int)} (r : OwR h h' v ls) (hok : okRows ls) : Rw h' v ls := by
  obtain ⟨Q, rfl, o⟩ := r
  refine ⟨⟨_, o.row (i := 0) rfl, by simp, fun i w hw => ?_⟩⟩
  rw [List.getElem?_map, Option.map_eq_some_iff] at hw
  obtain ⟨x, hx, rfl⟩ := hw
  have hm := hok x.2 (List.mem_map_of_mem (List.mem_of_getElem? hx))
  refine ⟨x.2, by rw [List.getElem?_map, hx]; rfl, o.row (i := i + 1) ?_, hm.1, hm.2⟩
  show (Q.map fun x => bufR x.1 (Z x.2))[i]? = _
  rw [List.getElem?_map, hx]; rfl
theorem OwR.ext {h h' : H} {v : Value} {ls : List (List Int)} (r : OwR h h' v ls) : Ext h h' := by
  obtain ⟨Q, _, o⟩ := r; exact o.ext
theorem Rw.ok {h : H} {v : Value} {ls : List (List Int)} (r : Rw h v ls) : okRows ls := by
  obtain ⟨vs, h1, h2, h3⟩ := r.ex
  intro l hl
  obtain ⟨i, hi⟩ := List.getElem?_of_mem hl
  obtain ⟨hil, rfl⟩ := List.getElem?_eq_some_iff.mp hi
  obtain ⟨t, ht, r⟩ := h3 i vs[i] (List.getElem?_eq_getElem (by omega))
  rw [hi] at ht
  cases ht
  exact ⟨r.len, r.rng⟩
def SpecSame (D : Orc) (f : Nat) : Prop := ∀ a b la lb h (k : Kv) kp, Rw h a la → Rw h b lb → la.length < 2 ^ 40 → k (.bool (decide (la = lb))) h → D f [a, b] h k kp
theorem rows_ne {la lb : List (List Int)} {i : Nat} {x y : List Int} (hx : la[i]? = some x) (hy : lb[i]? = some y) (hne : x ≠ y) : decide (la = lb) = false := by
  rw [decide_eq_false_iff_not]
  intro e
  rw [e, hy] at hx
  exact hne (Option.some.inj hx).symm
theorem spec13 (c : Cl13 D) : SpecSame D 13 := by
  intro a b la lb h k kp ra rb hl hk
  refine c _ _ _ _ _ ?_
  unfold F13
  rw [ra.len_, rb.len_, cond_ne]
  refine ⟨fun hne => ?_, fun he => ?_⟩
  · have : decide (la = lb) = false := by
      rw [decide_eq_false_iff_not]
      intro e
      rw [e] at hne; exact hne rfl
    rw [this] at hk; exact hk
  · have hlen : la.length = lb.length := by omega
    intro I hI
    have key := down_ind (P := fun j => (∀ i, i < j → la[i]? = lb[i]?) → I [a, b, nZ j] h) la.length fun j hj ih hs => by
      refine hI _ _ _ _ ?_
      unfold round13_4
      rw [intK_int, ra.len_, cond_dec]
      refine ⟨fun hlt => ?_, fun hge => ?_⟩
      · refine ra.at_ (by omega) (by omega) fun ad u x hx hrd hix => ⟨u, hrd, ?_⟩
        rw [hix.len_]
        refine rb.at_ (by omega) (by omega) fun ad2 w y hy hrd2 hiy => ⟨w, hrd2, ?_⟩
        rw [hiy.len_, cond_ne]
        rw [Int.toNat_natCast] at hx hy
        have hxl := hix.len
        refine ⟨fun hne => ?_, fun hel => ?_⟩
        · dsimp only
          rw [xs_r, nth0, boolW_bool]
          rw [rows_ne hx hy fun e => hne (by rw [e])] at hk
          exact hk
        · have hel : x.length = y.length := by omega
          intro I2 hI2
          have key2 := down_ind (P := fun m => (∀ i, i < m → x[i]? = y[i]?) → I2 [a, b, nZ j, nZ m] h) x.length fun m hm ih2 hs2 => by
            refine hI2 _ _ _ _ _ ?_
            unfold round13_9
            rw [intK_int, intK_int]
            refine ra.at_ (by omega) (by omega) fun ad u x' hx' hrd hix => ⟨u, hrd, ?_⟩
            rw [Int.toNat_natCast, hx] at hx'
            obtain rfl := Option.some.inj hx'
            rw [hix.len_, cond_dec]
            refine ⟨fun hlt2 => ?_, fun hge2 => ?_⟩
            · refine ra.at_ (by omega) (by omega) fun ad u x' hx' hrd hix => ⟨u, hrd, ?_⟩
              rw [Int.toNat_natCast, hx] at hx'
              obtain rfl := Option.some.inj hx'
              refine hix.at_ (by omega) (by omega) fun ad p hp _ hrd => ⟨p, hrd, ?_⟩
              refine rb.at_ (by omega) (by omega) fun ad w y' hy' hrd hiy => ⟨w, hrd, ?_⟩
              rw [Int.toNat_natCast, hy] at hy'
              obtain rfl := Option.some.inj hy'
              refine hiy.at_ (by omega) (by omega) fun ad q hq _ hrd => ⟨q, hrd, ?_⟩
              rw [Int.toNat_natCast] at hp hq
              rw [cond_ne]
              refine ⟨fun hne => ?_, fun he => ?_⟩
              · dsimp only
                rw [xs_r, nth0, boolW_bool, xs_r, nth0, boolW_bool]
                rw [rows_ne hx hy fun e => hne (by rw [e, hq] at hp; exact (Option.some.inj hp).symm)] at hk
                exact hk
              · rw [i64_id (by omega) (by omega)]
                refine ih2 (by omega) fun i hi => ?_
                by_cases him : i = m
                · subst him; rw [hp, hq, he]
                · exact hs2 i (by omega)
            · dsimp only
              rw [xs_e]
              show cond true _ _
              rw [cond_true, nth0, nth1, nth2, intK_int, i64_id (by omega) (by omega)]
              refine ih (by omega) fun i hi => ?_
              by_cases hij : i = j
              · subst hij
                rw [hx, hy]
                congr 1
                apply List.ext_getElem?
                intro i
                by_cases hi2 : i < m
                · exact hs2 i hi2
                · rw [List.getElem?_eq_none (by omega), List.getElem?_eq_none (by omega)]
              · exact hs i (by omega)
          exact key2 0 (by omega) fun i hi => by omega
      · dsimp only
        rw [xs_e]
        show cond true _ _
        rw [cond_true]
        have : decide (la = lb) = true := by
          rw [decide_eq_true_eq]
          apply List.ext_getElem?
          intro i
          by_cases hi : i < j
          · exact hs i hi
          · rw [List.getElem?_eq_none (by omega), List.getElem?_eq_none (by omega)]
        rw [this] at hk; exact hk
    exact key 0 (by omega) fun i hi => by omega
/-- Which row a number is in; -1: in none. -/
def homeI : List (List Int) → Int → Nat → Int
  | [], _, _ => -1
  | r :: l, x, k => if x ∈ r then (k : Int) else homeI l x (k + 1)
def SpecHome (D : Orc) (f : Nat) : Prop := ∀ v ls (x : Int) h (k : Kv) kp, Rw h v ls → ls.length < 2 ^ 40 → k (.int .i64 (homeI ls x 0)) h → D f [v, .int .i64 x] h k kp
theorem not_mem_drop {l : List Int} {i : Nat} {x y : Int} (hy : l[i]? = some y) (hn : y ≠ x) : (x ∈ l.drop i ↔ x ∈ l.drop (i + 1)) := by
  rw [(split_at hy).2.2, List.mem_cons]
  exact ⟨fun h => h.resolve_left fun e => hn e.symm, .inr⟩
theorem spec14 (c : Cl14 D) : SpecHome D 14 := by
  intro v ls x h k kp r hl hk
  refine c _ _ _ _ _ ?_
  unfold F14
  rw [intK_int]
  intro I hI
  have key := down_ind (P := fun j => homeI (ls.drop j) x j = homeI ls x 0 → I [v, .int .i64 x, nZ j] h) ls.length fun j hj ih he => by
    refine hI _ _ _ _ ?_
    unfold round14_2
    rw [intK_int, intK_int, r.len_, cond_dec]
    refine ⟨fun hlt => ?_, fun hge => ?_⟩
    · obtain ⟨t, ht⟩ : ∃ t, ls[j]? = some t := ⟨_, List.getElem?_eq_getElem (by omega)⟩
      rw [(split_at ht).2.2, homeI] at he
      have htl := (r.ok t (List.mem_of_getElem? ht)).1
      intro I2 hI2
      have key2 := down_ind (P := fun m => (x ∈ t ↔ x ∈ t.drop m) → I2 [v, .int .i64 x, nZ j, nZ m] h) t.length fun m hm ih2 hs2 => by
        refine hI2 _ _ _ _ _ ?_
        unfold round14_5
        rw [intK_int, intK_int, intK_int]
        refine r.at_ (by omega) (by omega) fun ad u t' ht' hrd hix => ⟨u, hrd, ?_⟩
        rw [Int.toNat_natCast, ht] at ht'
        obtain rfl := Option.some.inj ht'
        rw [hix.len_, cond_dec]
        refine ⟨fun hlt2 => ?_, fun hge2 => ?_⟩
        · refine r.at_ (by omega) (by omega) fun ad u t' ht' hrd hix => ⟨u, hrd, ?_⟩
          rw [Int.toNat_natCast, ht] at ht'
          obtain rfl := Option.some.inj ht'
          refine hix.at_ (by omega) (by omega) fun ad p hp _ hrd => ⟨p, hrd, ?_⟩
          rw [Int.toNat_natCast] at hp
          rw [cond_eq]
          refine ⟨fun e => ?_, fun hne => ?_⟩
          · subst e
            dsimp only
            rw [xs_r, nth0, intK_int, xs_r, nth0, intK_int]
            rw [if_pos (List.mem_of_getElem? hp)] at he
            rw [← he] at hk; exact hk
          · rw [i64_id (by omega) (by omega)]
            exact ih2 (by omega) (hs2.trans (not_mem_drop hp hne))
        · dsimp only
          rw [xs_e]
          show cond true _ _
          rw [List.drop_eq_nil_of_le (by omega)] at hs2
          rw [if_neg fun hx => by cases hs2.mp hx] at he
          rw [cond_true, nth0, nth1, nth2, intK_int, intK_int, i64_id (by omega) (by omega)]
          exact ih (by omega) he
      exact key2 0 (by omega) (by simp)
    · dsimp only
      rw [xs_e]
      show cond true _ _
      rw [cond_true]
      rw [List.drop_eq_nil_of_le (by omega)] at he
      rw [← he] at hk; exact hk
  exact key 0 (by omega) rfl
def SpecEdge (D : Orc) (f : Nat) : Prop := ∀ v ls (i x : Nat) t h (k : Kv) kp, Rw h v ls → ls[i]? = some t → ls.length < 2 ^ 40 → k (.bool (decide ((x : Int) ∈ t))) h → D f [v, nZ i, nZ x] h k kp
theorem spec16 (c : Cl16 D) : SpecEdge D 16 := by
  intro v ls i x t h k kp r ht hl hk
  refine c _ _ _ _ _ _ ?_
  unfold F16
  rw [intK_int, intK_int]
  have hil := (List.getElem?_eq_some_iff.mp ht).1
  have htl := (r.ok t (List.mem_of_getElem? ht)).1
  intro I hI
  have key := down_ind (P := fun m => ((x : Int) ∈ t ↔ (x : Int) ∈ t.drop m) → I [v, nZ i, nZ x, nZ m] h) t.length fun m hm ih2 hs2 => by
    refine hI _ _ _ _ _ ?_
    unfold round16_2
    rw [intK_int, intK_int, intK_int]
    refine r.at_ (by omega) (by omega) fun ad u t' ht' hrd hix => ⟨u, hrd, ?_⟩
    rw [Int.toNat_natCast, ht] at ht'
    obtain rfl := Option.some.inj ht'
    rw [hix.len_, cond_dec]
    refine ⟨fun hlt2 => ?_, fun hge2 => ?_⟩
    · refine r.at_ (by omega) (by omega) fun ad u t' ht' hrd hix => ⟨u, hrd, ?_⟩
      rw [Int.toNat_natCast, ht] at ht'
      obtain rfl := Option.some.inj ht'
      refine hix.at_ (by omega) (by omega) fun ad p hp _ hrd => ⟨p, hrd, ?_⟩
      rw [Int.toNat_natCast] at hp
      rw [cond_eq]
      refine ⟨fun e => ?_, fun hne => ?_⟩
      · subst e
        rw [xs_r, nth0, boolW_bool]
        rw [show decide ((x : Int) ∈ t) = true from by simpa using List.mem_of_getElem? hp] at hk
        exact hk
      · rw [i64_id (by omega) (by omega)]
        exact ih2 (by omega) (hs2.trans (not_mem_drop hp hne))
    · dsimp only
      rw [xs_e]
      show cond true _ _
      rw [cond_true]
      rw [List.drop_eq_nil_of_le (by omega)] at hs2
      rw [show decide ((x : Int) ∈ t) = false from by
        rw [decide_eq_false_iff_not]
        intro hx; cases hs2.mp hx] at hk
      exact hk
  exact key 0 (by omega) (by simp)
def SpecCopied (D : Orc) (f : Nat) : Prop := ∀ v ls h (k : Kv) kp, Rw h v ls → ls.length < 2 ^ 40 → (∀ v' h', OwR h h' v' ls → k v' h') → D f [v] h k kp
theorem spec10 (c : Cl10 D) : SpecCopied D 10 := by
  intro v ls h k kp r hl hk
  refine c _ _ _ _ ?_
  unfold F10
  intro b hb
  have o0 := ((Hp.nil_ h).newc hb []).cell_buf (i := 0) rfl (n := 0) rfl
  intro I hI
  have key := down_ind (P := fun j => ∀ (s : Value) (h1 : H) (Q : List (Value × List Int)), Q.map (·.2) = ls.take j → Hp h h1 (bufR s (Q.map (·.1)) :: Q.map fun x => bufR x.1 (Z x.2)) → I [v, s, nZ j] h1) ls.length fun j hj ih s h1 Q hQ o => by
    refine hI _ _ _ _ ?_
    unfold round10_3
    rw [intK_int, r.len_, cond_dec]
    refine ⟨fun hlt => ?_, fun hge => ?_⟩
    · intro b hb
      refine r.at_ (by omega) (by omega) fun ad u t ht hrd hix => ⟨u, rd_ext (o.ext.trans (Ext.new hb)) hrd, ?_⟩
      rw [Int.toNat_natCast] at ht
      have htl := hix.len
      have hQl : Q.length = j := by
        have := congrArg List.length hQ
        simpa [Nat.min_eq_left hj] using this
      have o2 := (o.newc hb []).cell_buf (i := 0) rfl (n := 0) rfl
      have rx := hix.row.ext o2.ext
      rw [rx.slen]
      refine rx.src (Nat.le_refl _) ?_
      rw [List.take_length]
      refine o2.app (i := 0) rfl (one_Z t) (by decide) (by rw [Z_len]; simp; omega) fun s2 h3 o3 => ?_
      refine ⟨sl_one' (o3.row (i := 0) rfl), by decide, ?_⟩
      refine (o3.push (i := 1) rfl (by decide) (by rw [List.length_map]; omega) (sl_one' (o3.row (i := 0) rfl)) (O := True) (U := True) trivial trivial fun s4 h5 o5 => ?_).2.2
      rw [i64_id (by omega) (by omega)]
      refine ih (by omega) s4 h5 (Q ++ [(s2, t)]) ?_ ?_
      · rw [List.map_append, hQ, (split_at ht).2.1]; rfl
      · refine o5.perm ?_
        show List.Perm _ (bufR s2 (Z t) :: bufR s4 (Q.map (·.1) ++ [s2]) :: Q.map fun x => bufR x.1 (Z x.2))
        refine .trans ?_ (.swap _ _ _)
        rw [List.map_append, List.map_append]
        exact .cons _ (List.perm_append_singleton _ _)
    · dsimp only
      rw [xs_e]
      show cond true _ _
      rw [cond_true, nth0]
      rw [List.take_of_length_le (by omega)] at hQ
      exact hk _ _ ⟨Q, hQ.symm, o⟩
  exact key 0 (by omega) _ _ [] (by simp) o0
end Go.Proofs.Ytdndngngdngjjaa.Am

namespace Go.Proofs.Ytdndngngdngjjaa.Am
open Go Go.Proofs Gr
set_option linter.unusedVariables false
set_option linter.unusedSimpArgs false
set_option maxRecDepth 100000
variable {D : Orc}

def barr (n : Nat) (f : Nat → Bool) : List Value := arr n fun j => .bool (f j)
/-- A table of n rows, each in a block of its own. -/
def tab (m n : Nat) (f : Nat → Nat → Bool) (V : Nat → Value) : List Res := (List.range m).map fun i => bufR (V i) (barr n (f i))
def WayR (h h' : H) (v : Value) (n : Nat) (f : Nat → Nat → Bool) : Prop := ∃ V : Nat → Value, Hp h h' (bufR v (arr n V) :: tab n n f V)
section
variable {h0 h : H} {v : Value} {n : Nat} {f : Nat → Nat → Bool} {V : Nat → Value}
theorem tab_get {i : Nat} (hi : i < n) : (bufR v (arr n V) :: tab n n f V)[i + 1]? = some (bufR (V i) (barr n (f i))) := by
  show (tab n n f V)[i]? = _
  simp [tab, hi]
theorem tab_row (o : Hp h0 h (bufR v (arr n V) :: tab n n f V)) {i : Nat} (hi : i < n) {K : Value → Prop} (hK : K (V i)) : slAtW v (i : Int) 1 fun ad => ∃ w, rd h ad = some w ∧ K w :=
  (o.row (i := 0) rfl).at_ (by omega) (by rw [arr_len]; omega) fun ad w hw hrd => by
    rw [Int.toNat_natCast, arr_get hi] at hw
    cases hw
    exact ⟨_, hrd, hK⟩
theorem tab_bit (o : Hp h0 h (bufR v (arr n V) :: tab n n f V)) {i j : Nat} (hi : i < n) (hj : j < n) {K : Bool → Prop} (hK : K (f i j)) : slAtW (V i) (j : Int) 1 fun ad => ∃ t : Bool, rd h ad = some (.bool t) ∧ K t :=
  (o.row (tab_get hi)).at_ (by omega) (by unfold barr; rw [arr_len]; omega) fun ad w hw hrd => by
    unfold barr at hw
    rw [Int.toNat_natCast, arr_get hj] at hw
    cases hw
    exact ⟨_, hrd, hK⟩
def upd2 (f : Nat → Nat → Bool) (i j : Nat) (t : Bool) : Nat → Nat → Bool := fun x y => if x = i ∧ y = j then t else f x y
theorem tab_set {i j : Nat} {t : Bool} (hi : i < n) : (bufR v (arr n V) :: tab n n f V).set (i + 1) (bufR (V i) ((barr n (f i)).set j (.bool t))) = bufR v (arr n V) :: tab n n (upd2 f i j t) V := by
  show bufR v (arr n V) :: (tab n n f V).set i _ = _
  congr 1
  apply List.ext_getElem?
  intro x
  unfold tab barr
  rw [List.getElem?_set, List.getElem?_map, List.getElem?_map, arr_setB]
  by_cases hx : x < n
  · rw [List.getElem?_range hx]
    by_cases hxi : i = x
    · subst hxi
      simp only [if_true, List.length_map, List.length_range, hx, Option.map_some]
      congr 2
      unfold upd2
      congr 1; funext y
      simp
    · rw [if_neg hxi]
      simp only [Option.map_some]
      congr 2
      unfold upd2
      congr 1; funext y
      simp [Ne.symm hxi]
  · rw [if_neg (by omega)]
    rw [List.getElem?_eq_none (by simp; omega)]; rfl
theorem tab_st (o : Hp h0 h (bufR v (arr n V) :: tab n n f V)) {i j : Nat} {t : Bool} (hi : i < n) (hj : j < n) {T : Prop} (hT : T) {K : H → Prop} (hK : ∀ h', Hp h0 h' (bufR v (arr n V) :: tab n n (upd2 f i j t) V) → K h') :
    slAtW (V i) (j : Int) 1 fun ad => one (.bool t) = true ∧ T ∧ ∃ h', wr1 h ad (.bool t) = some h' ∧ K h' :=
  o.put (tab_get hi) (by unfold barr; rw [arr_len]; exact hj) hT rfl fun h' o' => hK h' (by rw [tab_set hi] at o'; exact o')
end
/-- A row of a node's edges. -/
def rowB (n : Nat) (t : List Int) : Nat → Bool := fun y => decide ((y : Int) ∈ t)
open Classical in
noncomputable def wayB (g : G) (k : Nat) : Nat → Nat → Bool := fun i j => decide (Ways g k i j)
def SpecWays (D : Orc) (f : Nat) : Prop := ∀ v (g : G) h (k : Kv) kp, Rw h v g → g.length < 2 ^ 40 → (∀ v' h', WayR h h' v' g.length (wayB g g.length) → k v' h') → D f [v] h k kp
theorem wayB_step {g : G} {k i j : Nat} : wayB g (k + 1) i j = (wayB g k i j || (wayB g k i k && wayB g k k j)) := by
  unfold wayB
  rw [Bool.eq_iff_iff]
  simp only [decide_eq_true_eq, Bool.or_eq_true, Bool.and_eq_true]
  exact Iff.rfl
theorem wayB_zero {g : G} {t : List Int} {i j : Nat} (hi : g[i]? = some t) (hj : j < g.length) : wayB g 0 i j = rowB g.length t j := by
  unfold wayB rowB
  rw [decide_eq_decide]
  show Gr.Edge g i j ↔ _
  unfold Gr.Edge
  rw [List.getD_eq_getElem?_getD, hi]
  exact ⟨fun h => h.2.2, fun h => ⟨(List.getElem?_eq_some_iff.mp hi).1, hj, h⟩⟩
theorem arr_congr {n : Nat} {f f' : Nat → Value} (h : ∀ i, i < n → f i = f' i) : arr n f = arr n f' := by
  unfold arr
  exact List.map_congr_left fun i hi => h i (List.mem_range.mp hi)
theorem tab_congr {m n : Nat} {f f' : Nat → Nat → Bool} {V V' : Nat → Value} (hV : ∀ i, i < m → V i = V' i) (hf : ∀ i j, i < m → j < n → f i j = f' i j) : tab m n f V = tab m n f' V' := by
  unfold tab
  apply List.map_congr_left
  intro i hi
  have hi := List.mem_range.mp hi
  rw [hV i hi]
  unfold barr
  rw [arr_congr fun j hj => by rw [hf i j hi hj]]
theorem arr_push {n : Nat} {f : Nat → Value} {s : Value} : arr n f ++ [s] = arr (n + 1) fun x => if x = n then s else f x := by
  unfold arr
  rw [List.range_succ, List.map_append]
  congr 1
  · apply List.map_congr_left
    intro i hi
    have := List.mem_range.mp hi
    rw [if_neg (by omega)]
  · simp
theorem tab_push {m n : Nat} {f : Nat → Nat → Bool} {V : Nat → Value} {s : Value} {q : Nat → Bool} (hq : ∀ j, j < n → q j = f m j) : (bufR s (barr n q) :: tab m n f V).Perm (tab (m + 1) n f fun x => if x = m then s else V x) := by
  have e : tab (m + 1) n f (fun x => if x = m then s else V x) = tab m n f V ++ [bufR s (barr n q)] := by
    unfold tab
    rw [List.range_succ, List.map_append]
    congr 1
    · apply List.map_congr_left
      intro i hi
      have := List.mem_range.mp hi
      show bufR (if i = m then s else V i) _ = _
      rw [if_neg (by omega)]
    · simp only [List.map_cons, List.map_nil, if_true]
      have : barr n (f m) = barr n q := arr_congr fun j hj => by rw [hq j hj]
      rw [this]
  rw [e]
  exact (List.perm_append_singleton _ _).symm
theorem cond_true_iff {t : Bool} {A B : Prop} (h : t = true) : cond t A B ↔ A := by subst h; exact Iff.rfl
theorem ways_loop {D : Orc} {g : G} {h : H} {v : Value} {V : Nat → Value} (hn : g.length < 2 ^ 40) {K : Kl} (hK : ∀ h', Hp h h' (bufR v (arr g.length V) :: tab g.length g.length (wayB g g.length) V) → K (.e 4) [v] h')
    {h1 : H} (o : Hp h h1 (bufR v (arr g.length V) :: tab g.length g.length (wayB g 0) V)) : loop15_14 D [nZ g.length, v, nZ 0] h1 K := by
  intro I hI
  have key := down_ind (P := fun k => ∀ h1, Hp h h1 (bufR v (arr g.length V) :: tab g.length g.length (wayB g k) V) → I [nZ g.length, v, nZ k] h1) g.length fun k hk ih h1 o => by
    refine hI _ _ _ _ ?_
    unfold round15_14
    rw [intK_int, intK_int, cond_dec]
    refine ⟨fun hlt => ?_, fun hge => ?_⟩
    · have hk' : k < g.length := by omega
      intro I2 hI2
      have key2 := down_ind (P := fun i => ∀ h1, Hp h h1 (bufR v (arr g.length V) :: tab g.length g.length (fun x y => if x < i then wayB g (k + 1) x y else wayB g k x y) V) → I2 [nZ g.length, v, nZ k, nZ i] h1) g.length fun i hi ih2 h1 o => by
        refine hI2 _ _ _ _ _ ?_
        unfold round15_17
        rw [intK_int, intK_int, intK_int, cond_dec]
        refine ⟨fun hlt => ?_, fun hge => ?_⟩
        · have hi' : i < g.length := by omega
          intro I3 hI3
          have hend : ∀ h1, Hp h h1 (bufR v (arr g.length V) :: tab g.length g.length (fun x y => if x < i + 1 then wayB g (k + 1) x y else wayB g k x y) V) → I2 [nZ g.length, v, nZ k, .int .i64 (IntKind.i64.wrap ((i : Int) + 1))] h1 := fun h1 o => by
            rw [i64_id (by omega) (by omega)]
            exact ih2 hi' h1 o
          have key3 := down_ind (P := fun j => ∀ h1, (0 < j → wayB g k i k = true) → Hp h h1 (bufR v (arr g.length V) :: tab g.length g.length (fun x y => if x < i ∨ (x = i ∧ y < j) then wayB g (k + 1) x y else wayB g k x y) V) → I3 [nZ g.length, v, nZ k, nZ i, nZ j] h1) g.length fun j hj ih3 h1 hpos o => by
            refine hI3 _ _ _ _ _ _ ?_
            unfold round15_20
            rw [intK_int, intK_int, intK_int, intK_int]
            refine tab_row o hi' (tab_bit o hi' hk' ?_)
            cases hb : wayB g k i k with
            | false =>
              have hb2 : wayB g (k + 1) i k = false := by rw [wayB_step, hb]; rfl
              have : (if i < i ∨ (i = i ∧ k < j) then wayB g (k + 1) i k else false) = false := by rw [hb2]; split <;> rfl
              rw [this, cond_false]
              dsimp only
              rw [xs_e]
              show cond true _ _
              rw [cond_true, nth0, nth1, nth2, nth3, intK_int, intK_int, intK_int]
              refine hend h1 ?_
              rw [tab_congr (V' := V) (fun _ _ => rfl) (f' := fun x y => if x < i + 1 then wayB g (k + 1) x y else wayB g k x y)] at o
              · exact o
              · intro x y hx hy
                by_cases h1 : x < i
                · rw [if_pos (.inl h1), if_pos (by omega)]
                · by_cases h2 : x = i
                  · subst h2
                    have : wayB g (k + 1) x y = wayB g k x y := by rw [wayB_step, hb]; simp
                    rw [if_pos (show x < x + 1 by omega), this]
                    split <;> rfl
                  · rw [if_neg (by omega), if_neg (by omega)]
            | true =>
              have hb2 : wayB g (k + 1) i k = true := by rw [wayB_step, hb]; rfl
              have : (if i < i ∨ (i = i ∧ k < j) then wayB g (k + 1) i k else true) = true := by rw [hb2]; split <;> rfl
              rw [this, cond_true, cond_dec]
              refine ⟨fun hlt => ?_, fun hge => ?_⟩
              · have hj' : j < g.length := by omega
                refine tab_row o hi' (tab_row o hi' (tab_bit o hi' hj' ?_))
                rw [if_neg (show ¬ (i < i ∨ (i = i ∧ j < j)) by omega)]
                have next : ∀ (t : Bool) h2 K, t = wayB g (k + 1) i j → Hp h h2 (bufR v (arr g.length V) :: tab g.length g.length (upd2 (fun x y => if x < i ∨ (x = i ∧ y < j) then wayB g (k + 1) x y else wayB g k x y) i j t) V) → j15_20_21 D I3 K (nZ g.length) v (nZ k) (nZ i) (nZ j) h2 := fun t h2 K ht o2 => by
                  unfold j15_20_21
                  rw [intK_int, intK_int, intK_int, intK_int, i64_id (by omega) (by omega)]
                  refine ih3 hj' h2 (fun _ => hb) ?_
                  rw [tab_congr (V' := V) (fun _ _ => rfl) (f' := fun x y => if x < i ∨ (x = i ∧ y < j + 1) then wayB g (k + 1) x y else wayB g k x y)] at o2
                  · exact o2
                  · intro x y hx hy
                    unfold upd2
                    dsimp only
                    by_cases h1 : x = i ∧ y = j
                    · rw [if_pos h1, if_pos (by omega), ht, h1.1, h1.2]
                    · rw [if_neg h1]
                      by_cases h2 : x < i ∨ (x = i ∧ y < j)
                      · rw [if_pos h2, if_pos (by omega)]
                      · rw [if_neg h2, if_neg (by omega)]
                cases hb3 : wayB g k i j with
                | true =>
                  rw [Bool.not_true, cond_false]
                  refine tab_st o hi' hj' rfl fun h2 o2 => next true h2 _ ?_ o2
                  rw [wayB_step, hb3]; rfl
                | false =>
                  rw [Bool.not_false, cond_true]
                  refine tab_row o hk' (tab_bit o hk' hj' ?_)
                  refine tab_st o hi' hj' rfl fun h2 o2 => next _ h2 _ ?_ o2
                  have e : wayB g (k + 1) i j = wayB g k k j := by rw [wayB_step, hb3, hb]; rfl
                  rw [e]
                  split
                  · rw [wayB_step]
                    cases wayB g k k j <;> simp
                  · rfl
              · dsimp only
                rw [xs_e]
                show cond true _ _
                rw [cond_true, nth0, nth1, nth2, nth3, intK_int, intK_int, intK_int]
                refine hend h1 ?_
                rw [tab_congr (V' := V) (fun _ _ => rfl) (f' := fun x y => if x < i + 1 then wayB g (k + 1) x y else wayB g k x y)] at o
                · exact o
                · intro x y hx hy
                  by_cases h1 : x < i ∨ (x = i ∧ y < j)
                  · rw [if_pos h1, if_pos (by omega)]
                  · rw [if_neg h1, if_neg (by omega)]
          refine key3 0 (by omega) h1 (fun h => by omega) ?_
          rw [tab_congr (V' := V) (fun _ _ => rfl) (f' := fun x y => if x < i ∨ (x = i ∧ y < 0) then wayB g (k + 1) x y else wayB g k x y)] at o
          · exact o
          · intro x y hx hy
            by_cases h1 : x < i
            · rw [if_pos h1, if_pos (.inl h1)]
            · rw [if_neg h1, if_neg (by omega)]
        · dsimp only
          rw [xs_e]
          show cond true _ _
          rw [cond_true, nth0, nth1, nth2, intK_int, intK_int, i64_id (by omega) (by omega)]
          refine ih hk' h1 ?_
          rw [tab_congr (V' := V) (fun _ _ => rfl) (f' := wayB g (k + 1))] at o
          · exact o
          · intro x y hx hy
            rw [if_pos (by omega)]
      refine key2 0 (by omega) h1 ?_
      simpa using o
    · refine hK h1 ?_
      rw [show g.length = k by omega] at o ⊢
      exact o
  exact key 0 (by omega) h1 o
theorem rowB_push {n m : Nat} {t : List Int} {x : Int} (hx : t[m]? = some x) : (∀ y : Nat, x = (y : Int) → (barr n (rowB n (t.take m))).set y (.bool true) = barr n (rowB n (t.take (m + 1)))) ∧ ((x < 0 ∨ (n : Int) ≤ x) → barr n (rowB n (t.take m)) = barr n (rowB n (t.take (m + 1)))) := by
  have e := (split_at hx).2.1
  constructor
  · rintro y rfl
    unfold barr
    rw [arr_setB]
    refine arr_congr fun z hz => ?_
    unfold rowB
    rw [e]
    by_cases h : z = y
    · subst h; simp
    · rw [if_neg h]
      congr 1
      rw [decide_eq_decide, List.mem_append, List.mem_singleton]
      exact ⟨.inl, fun hh => hh.resolve_right (by omega)⟩
  · intro hx
    unfold barr
    refine arr_congr fun z hz => ?_
    unfold rowB
    rw [e]
    congr 1
    rw [decide_eq_decide, List.mem_append, List.mem_singleton]
    exact ⟨.inl, fun hh => hh.resolve_right (by omega)⟩
theorem spec15 (c : Cl15 D) : SpecWays D 15 := by
  intro v g h k kp r hn hk
  refine c _ _ _ _ ?_
  unfold F15
  rw [r.len_]
  intro b hb
  have o0 := ((Hp.nil_ h).newc hb []).cell_buf (i := 0) rfl (n := 0) rfl
  intro I hI
  have key := down_ind (P := fun i => ∀ (w : Value) (V : Nat → Value) (h1 : H), Hp h h1 (bufR w (arr i V) :: tab i g.length (wayB g 0) V) → I [v, nZ g.length, w, nZ i] h1) g.length fun i hi ih w V h1 o => by
    refine hI _ _ _ _ _ ?_
    unfold round15_4
    rw [intK_int, intK_int, cond_dec]
    refine ⟨fun hlt => ?_, fun hge => ?_⟩
    · have hi' : i < g.length := by omega
      obtain ⟨t, ht⟩ : ∃ t, g[i]? = some t := ⟨_, List.getElem?_eq_getElem hi'⟩
      have htl := (r.ok t (List.mem_of_getElem? ht)).1
      refine o.mkS (by omega) (by decide) fun bb h2 f2 o2 => ?_
      have o2 := o2.cell_buf (i := 0) rfl (n := g.length) (by simp)
      generalize (Value.slice (some ⟨bb, 0, none⟩) g.length g.length) = s at o2
      have o2 : Hp h h2 (bufR s (barr g.length (rowB g.length (t.take 0))) :: bufR w (arr i V) :: tab i g.length (wayB g 0) V) := by
        rw [arr_rep] at o2
        have e : barr g.length (rowB g.length (t.take 0)) = arr g.length fun _ => .bool false := by
          unfold barr rowB
          simp
        rw [e]
        exact o2
      intro I2 hI2
      have key2 := down_ind (P := fun m => ∀ h3, Hp h h3 (bufR s (barr g.length (rowB g.length (t.take m))) :: bufR w (arr i V) :: tab i g.length (wayB g 0) V) → I2 [v, nZ g.length, w, nZ i, s, nZ m] h3) t.length fun m hm ih2 h3 o3 => by
        refine hI2 _ _ _ _ _ _ _ ?_
        unfold round15_8
        rw [intK_int, intK_int, intK_int]
        have r3 := r.ext o3.ext
        have at3 : ∀ {K : Addr → Prop}, (∀ ad u, rd h3 ad = some u → Ir h3 u t → K ad) → slAtW v (i : Int) 1 K := fun hk => by
          refine r3.at_ (by omega) (by omega) fun ad u t' ht' hrd hix => ?_
          rw [Int.toNat_natCast, ht] at ht'
          obtain rfl := Option.some.inj ht'
          exact hk ad u hrd hix
        refine at3 fun ad u hrd hix => ⟨u, hrd, ?_⟩
        rw [hix.len_, cond_dec]
        refine ⟨fun hlt2 => ?_, fun hge2 => ?_⟩
        · have hm' : m < t.length := by omega
          have hx : t[m]? = some t[m] := List.getElem?_eq_getElem hm'
          generalize t[m] = x at hx
          have at4 : ∀ {u : Value} {K : Addr → Prop}, Ir h3 u t → (∀ ad, rd h3 ad = some (.int .i64 x) → K ad) → slAtW u (m : Int) 1 K := fun hix hk => by
            refine hix.at_ (by omega) (by omega) fun ad x' hx' _ hrd => ?_
            rw [Int.toNat_natCast, hx] at hx'
            obtain rfl := Option.some.inj hx'
            exact hk ad hrd
          refine at3 fun ad u hrd hix => ⟨u, hrd, at4 hix fun ad hrd => ⟨x, hrd, ?_⟩⟩
          have next : ∀ h4 K, Hp h h4 (bufR s (barr g.length (rowB g.length (t.take (m + 1)))) :: bufR w (arr i V) :: tab i g.length (wayB g 0) V) → j15_8_9 D I2 K v (nZ g.length) w (nZ i) s (nZ m) h4 := fun h4 K o4 => by
            unfold j15_8_9
            rw [intK_int, intK_int, intK_int, i64_id (by omega) (by omega)]
            exact ih2 hm' h4 o4
          have out : (x < 0 ∨ (g.length : Int) ≤ x) → ∀ K, j15_8_11 D I2 K v (nZ g.length) w (nZ i) s (nZ m) (.bool false) h3 := fun hx' K => by
            unfold j15_8_11
            rw [intK_int, intK_int, intK_int, boolW_bool, cond_false]
            refine next h3 K ?_
            rw [← (rowB_push hx).2 hx']; exact o3
          rw [cond_dec]
          refine ⟨fun hge0 => ?_, fun hneg => out (.inl (by omega)) _⟩
          refine at3 fun ad u hrd hix => ⟨u, hrd, at4 hix fun ad hrd => ⟨x, hrd, ?_⟩⟩
          by_cases hb : x < (g.length : Int)
          · rw [show decide (x < (g.length : Int)) = true by simpa using hb]
            unfold j15_8_11
            rw [intK_int, intK_int, intK_int, boolW_bool, cond_true]
            refine at3 fun ad u hrd hix => ⟨u, hrd, at4 hix fun ad hrd => ⟨x, hrd, ?_⟩⟩
            obtain ⟨y, rfl⟩ := Int.eq_ofNat_of_zero_le (show 0 ≤ x by omega)
            refine o3.put (i := 0) rfl (by unfold barr; rw [arr_len]; omega) rfl rfl fun h4 o4 => next h4 _ ?_
            rw [(rowB_push hx).1 y rfl] at o4
            exact o4
          · rw [show decide (x < (g.length : Int)) = false by simpa using hb]
            exact out (.inr (by omega)) _
        · dsimp only
          rw [xs_e]
          show cond true _ _
          rw [cond_true, nth1, nth3, nth4, nth2, nth0, intK_int, intK_int]
          refine ⟨sl_one' (o3.row (i := 0) rfl), by decide, ?_⟩
          refine (o3.push (i := 1) rfl (by decide) (by rw [arr_len]; omega) (sl_one' (o3.row (i := 0) rfl)) (O := True) (U := True) trivial trivial fun w' h4 o4 => ?_).2.2
          rw [i64_id (by omega) (by omega)]
          refine ih hi' w' (fun x => if x = i then s else V x) h4 ?_
          rw [arr_push] at o4
          refine o4.perm ?_
          have hp := tab_push (m := i) (n := g.length) (f := wayB g 0) (V := V) (s := s) (q := rowB g.length (t.take m)) fun j hj => by
            rw [List.take_of_length_le (by omega), wayB_zero ht hj]
          refine .trans ?_ (.swap _ _ _)
          exact List.Perm.cons _ hp.symm
      exact key2 0 (by omega) h2 o2
    · dsimp only
      rw [xs_e]
      show cond true _ _
      rw [cond_true, nth0, nth1, intK_int]
      have hig : i = g.length := by omega
      subst hig
      refine ways_loop hn (V := V) (fun h5 o5 => ?_) o
      rw [xs_e]
      show cond true _ _
      rw [cond_true, nth0]
      exact hk _ _ ⟨V, o5⟩
  exact key 0 (by omega) _ (fun _ => .int .i64 0) _ o0
end Go.Proofs.Ytdndngngdngjjaa.Am

namespace Go.Proofs.Ytdndngngdngjjaa.Am
open Go Go.Proofs Gr
set_option linter.unusedVariables false
set_option linter.unusedSimpArgs false
set_option maxRecDepth 100000
variable {D : Orc}

theorem filter_one {α : Type} {p : α → Bool} {x : α} : [x].filter p = if p x then [x] else [] := by cases h : p x <;> simp [h]
open Classical in
/-- What the document's inner loop gathers. -/
noncomputable def gath (g : G) (i m : Nat) : List Nat := (List.range m).filter fun k => decide (Gr.Way g i k ∧ Gr.Way g k i)
open Classical in
theorem wayB_end {g : G} {i j : Nat} : wayB g g.length i j = true ↔ Gr.Way g i j := by
  unfold wayB
  rw [decide_eq_true_eq]
  exact ways_iff
open Classical in
theorem gath_succ {g : G} {i m : Nat} : gath g i (m + 1) = if wayB g g.length i m && wayB g g.length m i then gath g i m ++ [m] else gath g i m := by
  unfold gath
  rw [List.range_succ, List.filter_append]
  have e : (wayB g g.length i m && wayB g g.length m i) = true ↔ (Gr.Way g i m ∧ Gr.Way g m i) := by
    rw [Bool.and_eq_true, wayB_end, wayB_end]
  by_cases h : Gr.Way g i m ∧ Gr.Way g m i
  · rw [if_pos (e.mpr h)]
    congr 1
    simp [h]
  · rw [if_neg (fun hh => h (e.mp hh))]
    simp only [List.filter_cons, List.filter_nil, h]
    simp
open Classical in
theorem gath_all {g : G} {i : Nat} (hi : i < g.length) : (Gr.Way g i i → gath g i g.length = cls g i) ∧ (¬ Gr.Way g i i → gath g i g.length = []) := by
  constructor
  · intro hw
    unfold gath cls
    apply List.filter_congr
    intro k hk
    rw [decide_eq_decide]
    constructor
    · exact fun h => ⟨h.1.reach, h.2.reach⟩
    · rintro ⟨h1, h2⟩
      rcases h1.way with e | h1'
      · subst e; exact ⟨hw, hw⟩
      · rcases h2.way with e | h2'
        · subst e; exact ⟨hw, hw⟩
        · exact ⟨h1', h2'⟩
  · intro hw
    unfold gath
    rw [List.filter_eq_nil_iff]
    intro k hk h
    rw [decide_eq_true_eq] at h
    obtain ⟨⟨y, e, r⟩, h2⟩ := h
    exact hw ⟨y, e, r.trans h2.reach⟩
open Classical in
noncomputable def someParts (g : G) (m : Nat) : List (List Nat) := ((List.range m).filter fun i => decide (Gr.Way g i i ∧ (cls g i).headD 0 = i)).map (cls g)
open Classical in
theorem someParts_succ {g : G} {m : Nat} : someParts g (m + 1) = if Gr.Way g m m ∧ (cls g m).headD 0 = m then someParts g m ++ [cls g m] else someParts g m := by
  unfold someParts
  rw [List.range_succ, List.filter_append, List.map_append]
  by_cases h : Gr.Way g m m ∧ (cls g m).headD 0 = m
  · rw [if_pos h]
    congr 1
    rw [filter_one, if_pos (by simpa using h)]; rfl
  · rw [if_neg h, filter_one, if_neg (by simpa using h)]
    simp
theorem someParts_len {g : G} {m : Nat} : (someParts g m).length ≤ m := by
  unfold someParts
  rw [List.length_map]
  exact Nat.le_trans (List.length_filter_le _ _) (by simp)
theorem gath_len {g : G} {i m : Nat} : (gath g i m).length ≤ m := by
  unfold gath
  exact Nat.le_trans (List.length_filter_le _ _) (by simp)
theorem Hp.sub2 {h0 h : H} {A B C : List Res} (o : Hp h0 h (A ++ (B ++ C))) : Hp h0 h (A ++ C) := o.sub ((List.sublist_append_right B C).append_left A)
theorem spec12 (c : Cl12 D) (sW : SpecWays D 15) : SpecParts D 12 := by
  intro v g h k kp r hn hk
  refine c _ _ _ _ ?_
  unfold F12
  refine sW _ _ _ _ _ r hn fun w h1 ⟨V, o1⟩ => ⟨w, rfl, ?_⟩
  intro b hb
  have o2 := (o1.newc hb []).cell_buf (i := 0) rfl (n := 0) rfl
  generalize hT : bufR w (arr g.length V) :: tab g.length g.length (wayB g g.length) V = T at *
  intro I hI
  have key := down_ind (P := fun i => ∀ (s : Value) (Q : List (Value × List Nat)) (h1 : H), Q.map (·.2) = someParts g i → Hp h h1 (bufR s (Q.map (·.1)) :: (T ++ inn Q)) → I [v, w, s, nZ i] h1) g.length fun i hi ih s Q h1 hQ o => by
    refine hI _ _ _ _ _ ?_
    unfold round12_4
    rw [intK_int, (r.ext o.ext).len_, cond_dec]
    refine ⟨fun hlt => ?_, fun hge => ?_⟩
    · have hi' : i < g.length := by omega
      intro b2 hb2
      have o3 := (o.newc hb2 []).cell_buf (i := 0) rfl (n := 0) rfl
      intro I2 hI2
      have key2 := down_ind (P := fun m => ∀ (q : Value) (h3 : H), Hp h h3 (bufR q (ZN (gath g i m)) :: bufR s (Q.map (·.1)) :: (T ++ inn Q)) → I2 [v, w, s, nZ i, q, nZ m] h3) g.length fun m hm ih2 q h3 o3 => by
        refine hI2 _ _ _ _ _ _ _ ?_
        unfold round12_8
        rw [intK_int, intK_int, (r.ext o3.ext).len_, cond_dec]
        have oT : Hp h h3 (bufR w (arr g.length V) :: tab g.length g.length (wayB g g.length) V) := by
          rw [hT]
          refine o3.sub ?_
          exact ((List.sublist_append_left T (inn Q)).trans (List.sublist_cons_self _ _)).trans (List.sublist_cons_self _ _)
        refine ⟨fun hlt2 => ?_, fun hge2 => ?_⟩
        · have hm' : m < g.length := by omega
          have next : ∀ (q' : Value) h4 K, Hp h h4 (bufR q' (ZN (gath g i (m + 1))) :: bufR s (Q.map (·.1)) :: (T ++ inn Q)) → j12_8_9 D I2 K v w s (nZ i) q' (nZ m) h4 := fun q' h4 K o4 => by
            unfold j12_8_9
            rw [intK_int, intK_int, i64_id (by omega) (by omega)]
            exact ih2 hm' q' h4 o4
          have join : ∀ (t : Bool) K, t = (wayB g g.length i m && wayB g g.length m i) → j12_8_11 D I2 K v w s (nZ i) q (nZ m) (.bool t) h3 := fun t K ht => by
            unfold j12_8_11
            rw [intK_int, intK_int, boolW_bool]
            cases t with
            | true =>
              rw [cond_true]
              have hgl := gath_len (g := g) (i := i) (m := m)
              refine o3.push (i := 0) rfl (by decide) (by rw [ZN_len]; omega) rfl rfl (by decide) fun q' h4 o4 => next q' h4 K ?_
              rw [gath_succ, if_pos ht.symm]
              have e : ZN (gath g i m ++ [m]) = ZN (gath g i m) ++ [nZ m] := by simp [ZN]
              rw [e]; exact o4
            | false =>
              rw [cond_false]
              refine next q h3 K ?_
              rw [gath_succ, ← ht]; exact o3
          refine tab_row oT hi' (tab_bit oT hi' hm' ?_)
          cases hb : wayB g g.length i m with
          | true =>
            rw [cond_true]
            refine tab_row oT hm' (tab_bit oT hm' hi' ?_)
            refine join _ _ ?_
            rw [hb]; rfl
          | false =>
            rw [cond_false]
            refine join _ _ ?_
            rw [hb]; rfl
        · dsimp only
          rw [xs_e]
          show cond true _ _
          rw [cond_true, nth3, nth4, nth0, nth1, nth2, intK_int]
          have hmg : m = g.length := by omega
          subst hmg
          have hrow := o3.row (i := 0) rfl
          rw [hrow.len, ZN_len, cond_dec]
          have next : ∀ (s' : Value) h4 K (Q' : List (Value × List Nat)), Q'.map (·.2) = someParts g (i + 1) → Hp h h4 (bufR s' (Q'.map (·.1)) :: (T ++ inn Q')) → j12_4_5 D I K v w s' (nZ i) h4 := fun s' h4 K Q' hQ' o4 => by
            unfold j12_4_5
            rw [intK_int, i64_id (by omega) (by omega)]
            exact ih hi' s' Q' h4 hQ' o4
          have skip : ∀ K, ¬ (Gr.Way g i i ∧ (cls g i).headD 0 = i) → j12_4_13 D I K v w s (nZ i) q (.bool false) h3 := fun K hno => by
            unfold j12_4_13
            rw [intK_int, boolW_bool, cond_false]
            refine next s h3 K Q ?_ o3.tail
            rw [hQ, someParts_succ, if_neg hno]
          obtain ⟨g1, g2⟩ := gath_all (g := g) hi'
          refine ⟨fun hpos => ?_, fun hz => ?_⟩
          · have hw : Gr.Way g i i := Classical.byContradiction fun hw => by
              rw [g2 hw] at hpos
              simp at hpos
            have hg := g1 hw
            rw [hg] at hrow o3 hpos
            have hne : cls g i ≠ [] := fun e => by rw [e] at hpos; simp at hpos
            obtain ⟨y, ys, hy⟩ := List.exists_cons_of_ne_nil hne
            refine hrow.at_ (n := 0) (by omega) (by rw [ZN_len]; omega) fun ad u hu hrd => ?_
            rw [hy] at hu
            have hu : u = nZ y := by simpa [ZN] using hu.symm
            subst hu
            refine ⟨_, hrd, ?_⟩
            have hhd : (cls g i).headD 0 = y := by rw [hy]; rfl
            by_cases hyi : y = i
            · rw [show ((y : Int) == (i : Int)) = true by rw [hyi]; simp]
              unfold j12_4_13
              rw [intK_int, boolW_bool, cond_true]
              have hql : Q.length ≤ i := by
                have := congrArg List.length hQ
                rw [List.length_map] at this
                rw [this]; exact someParts_len
              refine ⟨sl_one' hrow, by decide, ?_⟩
              refine (o3.push (i := 1) rfl (by decide) (by rw [List.length_map]; omega) (sl_one' hrow) (O := True) (U := True) trivial trivial fun s' h4 o4 => ?_).2.2
              refine next s' h4 _ (Q ++ [(q, cls g i)]) ?_ ?_
              · rw [List.map_append, hQ, someParts_succ, if_pos ⟨hw, by rw [hhd, hyi]⟩]; rfl
              · refine o4.perm ?_
                have e1 : (Q ++ [(q, cls g i)]).map (·.1) = Q.map (·.1) ++ [q] := by simp
                have e2 : inn (Q ++ [(q, cls g i)]) = inn Q ++ [bufR q (ZN (cls g i))] := by simp [inn]
                rw [e1, e2]
                refine .trans ?_ (.swap _ _ _)
                refine .cons _ ?_
                rw [← List.append_assoc]
                exact List.perm_append_singleton _ _
            · rw [show ((y : Int) == (i : Int)) = false by simp; omega]
              exact skip _ fun h => hyi (by rw [← hhd]; exact h.2)
          · refine skip _ fun h => ?_
            rw [g1 h.1] at hz
            have := cls_self (g := g) hi'
            have := List.length_pos_of_mem this
            omega
      exact key2 0 (by omega) _ _ o3
    · dsimp only
      rw [xs_e]
      show cond true _ _
      rw [cond_true, nth0]
      have hig : i = g.length := by omega
      subst hig
      refine hk _ _ ⟨Q, hQ.symm, ?_⟩
      exact o.sub ((List.sublist_append_right T (inn Q)).cons_cons _)
  refine key 0 (by omega) _ [] _ (by simp [someParts]) ?_
  simpa [inn] using o2
end Go.Proofs.Ytdndngngdngjjaa.Am

namespace Go.Proofs.Ytdndngngdngjjaa.Am
open Go Go.Proofs Gr
set_option linter.unusedVariables false
set_option linter.unusedSimpArgs false
set_option maxRecDepth 100000
variable {D : Orc}

inductive Irs (h : H) : List Value → List (List Int) → Prop
  | nil : Irs h [] []
  | cons {v : Value} {t : List Int} {vs : List Value} {ts : List (List Int)} : Ir h v t → Irs h vs ts → Irs h (v :: vs) (t :: ts)
theorem Irs.ext {h h' : H} {vs : List Value} {ts : List (List Int)} (r : Irs h vs ts) (e : Ext h h') : Irs h' vs ts := by
  induction r with
  | nil => exact .nil
  | cons a _ ih => exact .cons (a.ext e) ih
theorem Irs.len {h : H} {vs : List Value} {ts : List (List Int)} (r : Irs h vs ts) : vs.length = ts.length := by
  induction r with
  | nil => rfl
  | cons _ _ ih => simp [ih]
theorem Irs.at {h : H} {vs : List Value} {ts : List (List Int)} (r : Irs h vs ts) : ∀ (i : Nat) v, vs[i]? = some v → ∃ t, ts[i]? = some t ∧ Ir h v t := by
  induction r with
  | nil => intro i v hv; simp at hv
  | cons a _ ih =>
    intro i v hv
    cases i with
    | zero => simp at hv; subst hv; exact ⟨_, rfl, a⟩
    | succ i => exact ih i v (by simpa using hv)
/-- A new row of rows. -/
theorem rw_rule {h : H} {vs : List Value} {ts : List (List Int)} {n : Nat} (hn : vs.length = n) (r : Irs h vs ts) {K : Value → H → Prop} (hK : ∀ v h', Rw h' v ts → Ext h h' → K v h') : newSl h n vs K := fun b hb =>
  hK _ _ ⟨⟨vs, Row.cells set_here hn, r.len, (r.ext (Ext.new (o := .cells vs) hb)).at⟩⟩ (Ext.new hb)
/-- A new row of numbers. -/
theorem ir_rule {h : H} {l : List Int} {n : Nat} {zs : List Value} (hz : zs = Z l) (hn : l.length = n) (hl : n < 2 ^ 40) (hr : ∀ x ∈ l, inI x) {K : Value → H → Prop} (hK : ∀ v h', Ir h' v l → Ext h h' → one v = true → K v h') : newSl h n zs K := fun b hb => by
  subst hz
  exact hK _ _ (ir_new set_here hn hl hr) (Ext.new hb) rfl
theorem parts_ok {g : G} (hn : g.length < 2 ^ 40) : okRows ((partsOf g).map toI) := by
  intro l hl
  obtain ⟨p, hp, rfl⟩ := List.mem_map.mp hl
  refine ⟨by have := partsOf_len hp; simp [toI]; omega, fun x hx => ?_⟩
  obtain ⟨y, hy, rfl⟩ := List.mem_map.mp hx
  have := partsOf_lt hp hy
  unfold inI; omega
theorem PsR.rw_ {h h' : H} {v : Value} {g : G} (r : PsR h h' v (partsOf g)) (hn : g.length < 2 ^ 40) : Rw h' v ((partsOf g).map toI) := r.ow.rw (parts_ok hn)
theorem PsR.ext_ {h h' : H} {v : Value} {ps : List (List Nat)} (r : PsR h h' v ps) : Ext h h' := r.ow.ext
theorem spec9 (c : Cl9 D) (sP : SpecParts D 11) (sS : SpecSame D 13) {h : H} {k : Kv} {kp : Kp} (hk : ∀ h', Ext h h' → k (.bool true) h') : D 9 [] h k kp := by
  refine c _ _ _ ?_
  unfold F9
  refine ⟨rfl, by decide, ir_rule (l := [1]) rfl rfl (by decide) (by unfold inI; decide) fun s0 h1 r0 e1 q0 => ?_⟩
  refine ⟨rfl, by decide, ir_rule (l := [2]) rfl rfl (by decide) (by unfold inI; decide) fun s1 h2 r1 e2 q1 => ?_⟩
  refine ⟨rfl, by decide, rfl, by decide, ir_rule (l := [0, 3]) rfl rfl (by decide) (by unfold inI; decide) fun s2 h3 r2 e3 q2 => ?_⟩
  refine ⟨rfl, by decide, ir_rule (l := [3]) rfl rfl (by decide) (by unfold inI; decide) fun s3 h4 r3 e4 q3 => ?_⟩
  refine ⟨rfl, by decide, ir_rule (l := [0]) rfl rfl (by decide) (by unfold inI; decide) fun s4 h5 r4 e5 q4 => ?_⟩
  refine ⟨q0, by decide, q1, by decide, q2, by decide, q3, by decide, q4, by decide, ?_⟩
  refine rw_rule rfl (.cons (r0.ext (e2.trans (e3.trans (e4.trans e5)))) (.cons (r1.ext (e3.trans (e4.trans e5))) (.cons (r2.ext (e4.trans e5)) (.cons (r3.ext e5) (.cons r4 .nil))))) fun s5 h6 r5 e6 => ?_
  refine sP _ _ _ _ _ r5 (by decide) fun a h7 pa => ⟨a, rfl, ?_⟩
  have ra := pa.rw_ (by decide)
  rw [shown1] at ra
  have ea := (e1.trans (e2.trans (e3.trans (e4.trans (e5.trans (e6.trans pa.ext_))))))
  clear r0 r1 r2 r3 r4 r5 e1 e2 e3 e4 e5 e6 q0 q1 q2 q3 q4 pa
  refine ⟨rfl, by decide, rfl, by decide, rfl, by decide, ir_rule (l := [3, -1, 9]) rfl rfl (by decide) (by unfold inI; decide) fun s0 h1 r0 e1 q0 => ?_⟩
  refine ⟨rfl, by decide, ir_rule (l := [2]) rfl rfl (by decide) (by unfold inI; decide) fun s1 h2 r1 e2 q1 => ?_⟩
  refine ⟨rfl, by decide, ir_rule (l := [1]) rfl rfl (by decide) (by unfold inI; decide) fun s2 h3 r2 e3 q2 => ?_⟩
  refine ⟨rfl, by decide, ir_rule (l := [0]) rfl rfl (by decide) (by unfold inI; decide) fun s3 h4 r3 e4 q3 => ?_⟩
  refine ⟨q0, by decide, q1, by decide, q2, by decide, q3, by decide, ?_⟩
  refine rw_rule rfl (.cons (r0.ext (e2.trans (e3.trans e4))) (.cons (r1.ext (e3.trans e4)) (.cons (r2.ext e4) (.cons r3 .nil)))) fun s5 h6 r5 e6 => ?_
  refine sP _ _ _ _ _ r5 (by decide) fun b h8 pb => ⟨b, rfl, ?_⟩
  have rb := pb.rw_ (by decide)
  rw [shown2] at rb
  have eb := (e1.trans (e2.trans (e3.trans (e4.trans (e6.trans pb.ext_)))))
  have ra := ra.ext eb
  have eb := ea.trans eb
  clear r0 r1 r2 r3 r5 e1 e2 e3 e4 e6 q0 q1 q2 q3 pb ea
  refine ⟨rfl, by decide, ir_rule (l := [1]) rfl rfl (by decide) (by unfold inI; decide) fun s0 h1 r0 e1 q0 => ?_⟩
  refine ⟨rfl, by decide, ir_rule (l := [2]) rfl rfl (by decide) (by unfold inI; decide) fun s1 h2 r1 e2 q1 => ?_⟩
  refine ir_rule (l := []) rfl rfl (by decide) (by simp) fun s2 h3 r2 e3 q2 => ?_
  refine ⟨q0, by decide, q1, by decide, q2, by decide, ?_⟩
  refine rw_rule rfl (.cons (r0.ext (e2.trans e3)) (.cons (r1.ext e3) (.cons r2 .nil))) fun s5 h6 r5 e6 => ?_
  refine sP _ _ _ _ _ r5 (by decide) fun cc h9 pc => ⟨cc, rfl, ?_⟩
  have rc := pc.rw_ (by decide)
  rw [shown3] at rc
  have ec := (e1.trans (e2.trans (e3.trans (e6.trans pc.ext_))))
  have ra := ra.ext ec
  have rb := rb.ext ec
  have ec := eb.trans ec
  clear r0 r1 r2 r5 e1 e2 e3 e6 q0 q1 q2 pc eb
  refine ⟨rfl, by decide, ir_rule (l := [0]) rfl rfl (by decide) (by unfold inI; decide) fun s0 h1 r0 e1 q0 => ?_⟩
  refine ⟨q0, by decide, ?_⟩
  refine rw_rule rfl (.cons r0 .nil) fun s5 h6 r5 e6 => ?_
  refine sP _ _ _ _ _ r5 (by decide) fun dd h10 pd => ⟨dd, rfl, ?_⟩
  have rd_ := pd.rw_ (by decide)
  rw [shown4] at rd_
  have ed := (e1.trans (e6.trans pd.ext_))
  have ra := ra.ext ed
  have rb := rb.ext ed
  have rc := rc.ext ed
  have ed := ec.trans ed
  clear r0 r5 e1 e6 q0 pd ec
  refine ⟨rfl, by decide, rfl, by decide, rfl, by decide, ir_rule (l := [0, 1, 2]) rfl rfl (by decide) (by unfold inI; decide) fun s0 h1 r0 e1 q0 => ?_⟩
  refine ⟨rfl, by decide, ir_rule (l := [3]) rfl rfl (by decide) (by unfold inI; decide) fun s1 h2 r1 e2 q1 => ?_⟩
  refine ⟨q0, by decide, q1, by decide, ?_⟩
  refine rw_rule rfl (.cons (r0.ext e2) (.cons r1 .nil)) fun s5 h6 r5 e6 => ?_
  have e7 := e1.trans (e2.trans e6)
  refine sS _ _ _ _ _ _ _ (ra.ext e7) r5 (by decide) ⟨true, congrArg Value.bool (by decide), ?_⟩
  rw [cond_true]
  have rb := rb.ext e7
  have rc := rc.ext e7
  have rd_ := rd_.ext e7
  have ed := ed.trans e7
  clear r0 r1 r5 e1 e2 e6 e7 q0 q1 ra
  refine ⟨rfl, by decide, rfl, by decide, ir_rule (l := [0, 3]) rfl rfl (by decide) (by unfold inI; decide) fun s0 h1 r0 e1 q0 => ?_⟩
  refine ⟨rfl, by decide, rfl, by decide, ir_rule (l := [1, 2]) rfl rfl (by decide) (by unfold inI; decide) fun s1 h2 r1 e2 q1 => ?_⟩
  refine ⟨q0, by decide, q1, by decide, ?_⟩
  refine rw_rule rfl (.cons (r0.ext e2) (.cons r1 .nil)) fun s5 h6 r5 e6 => ?_
  have e7 := e1.trans (e2.trans e6)
  refine sS _ _ _ _ _ _ _ (rb.ext e7) r5 (by decide) ⟨true, congrArg Value.bool (by decide), ?_⟩
  rw [cond_true]
  have rc := rc.ext e7
  have rd_ := rd_.ext e7
  have ed := ed.trans e7
  clear r0 r1 r5 e1 e2 e6 e7 q0 q1 rb
  rw [rc.len_]
  show cond true _ _
  rw [cond_true]
  refine ⟨rfl, by decide, ir_rule (l := [0]) rfl rfl (by decide) (by unfold inI; decide) fun s0 h1 r0 e1 q0 => ?_⟩
  refine ⟨q0, by decide, ?_⟩
  refine rw_rule rfl (.cons r0 .nil) fun s5 h6 r5 e6 => ?_
  have e7 := e1.trans e6
  refine sS _ _ _ _ _ _ _ (rd_.ext e7) r5 (by decide) ⟨true, congrArg Value.bool (by decide), ?_⟩
  exact hk _ (ed.trans e7)
end Go.Proofs.Ytdndngngdngjjaa.Am

namespace Go.Proofs.Ytdndngngdngjjaa.Am
open Go Go.Proofs Gr
set_option linter.unusedVariables false
set_option linter.unusedSimpArgs false
set_option maxRecDepth 100000
variable {D : Orc}

def SpecShown (D : Orc) (f : Nat) : Prop := ∀ h (k : Kv) kp, (∀ h', Ext h h' → k (.bool true) h') → D f [] h k kp
def inZ (Q : List (Value × List Int)) : List Res := Q.map fun x => bufR x.1 (Z x.2)
def rowsL (v : Value) (Q : List (Value × List Int)) (R : List Res) : List Res := bufR v (Q.map (·.1)) :: (inZ Q ++ R)
section
variable {h0 h : H} {v : Value} {Q : List (Value × List Int)} {R : List Res} {i : Nat} {w : Value} {l : List Int}
theorem rowsL_get (hi : Q[i]? = some (w, l)) : (rowsL v Q R)[i + 1]? = some (bufR w (Z l)) := by
  show (inZ Q ++ R)[i]? = _
  have hl := (List.getElem?_eq_some_iff.mp hi).1
  rw [List.getElem?_append_left (by simp [inZ]; exact hl)]
  unfold inZ
  rw [List.getElem?_map, hi]; rfl
theorem rowsL_row (o : Hp h0 h (rowsL v Q R)) (hi : Q[i]? = some (w, l)) {K : Value → Prop} (hK : K w) : slAtW v (i : Int) 1 fun ad => ∃ u, rd h ad = some u ∧ K u := by
  have hl := (List.getElem?_eq_some_iff.mp hi).1
  refine (o.row (i := 0) rfl).at_ (by omega) (by rw [List.length_map]; omega) fun ad u hu hrd => ?_
  rw [Int.toNat_natCast, List.getElem?_map, hi] at hu
  cases hu
  exact ⟨_, hrd, hK⟩
theorem rowsL_set (hi : i < Q.length) {m : List Int} : (rowsL v Q R).set (i + 1) (bufR w (Z m)) = bufR v (Q.map (·.1)) :: (inZ (Q.set i (w, m)) ++ R) := by
  show bufR v (Q.map (·.1)) :: (inZ Q ++ R).set i _ = _
  congr 1
  rw [List.set_append_left _ _ (by simp [inZ]; exact hi)]
  congr 1
  unfold inZ
  rw [List.map_set]
theorem rowsL_set0 {m : List Int} : (bufR v (Q.map (·.1)) :: (inZ (Q.set i (w, m)) ++ R)).set 0 (bufR v ((Q.map (·.1)).set i w)) = rowsL v (Q.set i (w, m)) R := by
  unfold rowsL
  rw [List.map_set]; rfl
theorem rowsL_same (hi : Q[i]? = some (w, l)) {m : List Int} : (rowsL v Q R).set (i + 1) (bufR w (Z m)) = rowsL v (Q.set i (w, m)) R := by
  have hl := (List.getElem?_eq_some_iff.mp hi).1
  rw [rowsL_set hl]
  unfold rowsL
  rw [List.map_set]
  congr 2
  apply List.ext_getElem?
  intro j
  rw [List.getElem?_set]
  by_cases hij : i = j
  · subst hij
    rw [if_pos rfl, if_pos (by simpa using hl), List.getElem?_map, hi]; rfl
  · rw [if_neg hij]
/-- Of rows that are written, the others stay. -/
theorem rowsL_tail (o : Hp h0 h (rowsL v Q R)) : Hp h0 h R := o.sub (((List.sublist_append_right (inZ Q) R)).trans (List.sublist_cons_self _ _))
theorem rowsL_ow (o : Hp h0 h (rowsL v Q R)) : OwR h0 h v (Q.map (·.2)) := ⟨Q, rfl, o.sub ((List.sublist_append_left (inZ Q) R).cons_cons _)⟩
end
theorem Z_setI {l : List Int} {k : Nat} {x : Int} : (Z l).set k (.int .i64 x) = Z (l.set k x) := by simp [Z]
theorem spec3 (c : Cl3 D) (sh : SpecShown D 9) (sC : SpecCopied D 10) (sP : SpecParts D 11) (sQ : SpecParts D 12) (sS : SpecSame D 13) {v : Value} {g : G} {h : H} {k : Kv} {kp : Kp} (r : Rw h v g) (hn : g.length < 2 ^ 40)
    (hk : ∀ h', k (.bool true) h') : D 3 [v] h k kp := by
  refine c _ _ _ _ ?_
  unfold F3
  refine sh _ _ _ fun h1 e1 => ⟨true, rfl, ?_⟩
  rw [Bool.not_true, cond_false, r.len_, cond_dec]
  refine ⟨fun _ => hk _, fun hle => ?_⟩
  have r1 := r.ext e1
  refine sC _ _ _ _ _ r1 hn fun w h2 oc => ⟨w, rfl, ?_⟩
  refine sP _ _ _ _ _ (oc.rw r.ok) hn fun a h3 pa => ⟨a, rfl, ?_⟩
  have e3 := oc.ext.trans pa.ext_
  refine sQ _ _ _ _ _ (r1.ext e3) hn fun b h4 pb => ⟨b, rfl, ?_⟩
  have ra := (pa.rw_ hn).ext pb.ext_
  have rb := pb.rw_ hn
  have hpl := partsOf_len2 g
  refine sS _ _ _ _ _ _ _ ra rb (by rw [List.length_map]; omega) ⟨true, congrArg Value.bool (by simp), ?_⟩
  rw [Bool.not_true, Bool.not_false, cond_true]
  refine sS _ _ _ _ _ _ _ ((oc.rw r.ok).ext (pa.ext_.trans pb.ext_)) (r1.ext (e3.trans pb.ext_)) hn ⟨true, congrArg Value.bool (by simp), ?_⟩
  rw [Bool.not_true]
  unfold j3__10
  rw [boolW_bool, boolW_bool, cond_false]
  obtain ⟨Qc, hQc, oc⟩ := oc
  obtain ⟨Qa, hQa, oa⟩ := pa.ow
  obtain ⟨Qb, hQb, ob⟩ := pb.ow
  have oall := (oc.join oa).join ob
  have o0 : Hp h1 h4 (rowsL a Qa ((bufR b (Qb.map (·.1)) :: inZ Qb) ++ (bufR w (Qc.map (·.1)) :: inZ Qc))) := by
    refine oall.perm ?_
    show List.Perm ((bufR a (Qa.map (·.1)) :: inZ Qa) ++ ((bufR b (Qb.map (·.1)) :: inZ Qb) ++ (bufR w (Qc.map (·.1)) :: inZ Qc))) ((bufR b (Qb.map (·.1)) :: inZ Qb) ++ ((bufR a (Qa.map (·.1)) :: inZ Qa) ++ (bufR w (Qc.map (·.1)) :: inZ Qc)))
    rw [← List.append_assoc, ← List.append_assoc]
    exact List.perm_append_comm.append_right _
  generalize hR : ((bufR b (Qb.map (·.1)) :: inZ Qb) ++ (bufR w (Qc.map (·.1)) :: inZ Qc)) = R at o0
  have hal : ∀ x ∈ Qa, x.2.length < 2 ^ 40 := fun x hx => (parts_ok hn x.2 (by rw [hQa]; exact List.mem_map_of_mem hx)).1
  have hQal : Qa.length < 2 ^ 40 := by
    have := congrArg List.length hQa
    rw [List.length_map, List.length_map] at this
    omega
  intro I hI
  have key := down_ind (P := fun i => ∀ (Q : List (Value × List Int)) (h5 : H), Q.length = Qa.length → (∀ x ∈ Q, x.2.length < 2 ^ 40) → Hp h1 h5 (rowsL a Q R) → I [.bool true, w, a, b, nZ i] h5) Qa.length fun i hi ih Q h5 hQ hl o => by
    refine hI _ _ _ _ _ _ ?_
    unfold round3_12
    rw [boolW_bool, intK_int, (o.row (i := 0) rfl).len, List.length_map, hQ, cond_dec]
    refine ⟨fun hlt => ?_, fun hge => ?_⟩
    · have hi' : i < Q.length := by omega
      have hqi : Q[i]? = some ((Q[i]).1, (Q[i]).2) := List.getElem?_eq_getElem hi'
      have hql := hl _ (List.getElem_mem hi')
      generalize (Q[i]).1 = u at hqi
      generalize (Q[i]).2 = l at hqi hql
      intro I2 hI2
      have key2 := down_ind (P := fun m => ∀ (l' : List Int) (h6 : H), l'.length = l.length → Hp h1 h6 (rowsL a (Q.set i (u, l')) R) → I2 [.bool true, w, a, b, nZ i, nZ m] h6) l.length fun m hm ih2 l' h6 hll o6 => by
        refine hI2 _ _ _ _ _ _ _ ?_
        unfold round3_15
        rw [boolW_bool, intK_int, intK_int]
        have hg : (Q.set i (u, l'))[i]? = some (u, l') := by rw [List.getElem?_set_self (by omega)]
        refine rowsL_row o6 hg ?_
        rw [(o6.row (rowsL_get hg)).len, Z_len, hll, cond_dec]
        refine ⟨fun hlt2 => ?_, fun hge2 => ?_⟩
        · refine rowsL_row o6 hg ?_
          refine o6.put (rowsL_get hg) (by rw [Z_len]; omega) rfl rfl fun h7 o7 => ?_
          rw [i64_id (by omega) (by omega)]
          refine ih2 (by omega) (l'.set m 99) h7 (by simpa using hll) ?_
          rw [Z_setI, rowsL_same hg, List.set_set] at o7
          exact o7
        · dsimp only
          rw [xs_e]
          show cond true _ _
          rw [cond_true, nth0, nth1, nth2, nth3, nth4, boolW_bool, intK_int]
          refine rowsL_row o6 hg ?_
          refine ⟨rfl, by decide, ?_⟩
          refine (o6.push (rowsL_get hg) (by decide) (by rw [Z_len]; omega) rfl (O := True) (U := True) trivial trivial fun u' h7 o7 => ?_).2.2
          have hsl : (rowsL a (Q.set i (u, l')) R).length > i + 1 := (List.getElem?_eq_some_iff.mp (rowsL_get (v := a) (R := R) hg)).1
          refine o7.upto (i := i + 1) (List.getElem?_set_self hsl) (by omega) (by omega) fun o8 => ?_
          rw [List.set_set] at o8
          have e0 : (Z l' ++ [Value.int IntKind.i64 98]).take (Int.toNat 0) = Z [] := rfl
          rw [e0, rowsL_set (by rw [List.length_set]; exact hi')] at o8
          generalize cutTo u' (Int.toNat 0) = u2 at o8
          have hone : one u2 = true := sl_one' (o8.row (i := i + 1) (by
            show (inZ ((Q.set i (u, l')).set i (u2, [])) ++ R)[i]? = _
            rw [List.getElem?_append_left (by simp [inZ]; exact hi')]
            unfold inZ
            rw [List.getElem?_map, List.getElem?_set_self (by rw [List.length_set]; exact hi')]; rfl))
          refine o8.put (i := 0) rfl (by rw [List.length_map, List.length_set]; exact hi') rfl hone fun h9 o9 => ?_
          rw [rowsL_set0, List.set_set] at o9
          rw [i64_id (by omega) (by omega)]
          refine ih (by omega) (Q.set i (u2, [])) h9 (by rw [List.length_set]; exact hQ) (fun x hx => ?_) o9
          rcases List.mem_or_eq_of_mem_set hx with hx | rfl
          · exact hl x hx
          · simp
      refine key2 0 (by omega) l h5 rfl ?_
      have : Q.set i (u, l) = Q := by
        apply List.ext_getElem?
        intro j
        rw [List.getElem?_set]
        by_cases hij : i = j
        · subst hij; rw [if_pos rfl, if_pos hi', hqi]
        · rw [if_neg hij]
      rw [this]; exact o
    · dsimp only
      rw [xs_e]
      show cond true _ _
      rw [cond_true, nth0, nth1, nth2, boolW_bool, cond_true]
      have oR := rowsL_tail o
      rw [← hR] at oR
      have ow : OwR h1 h5 w g := ⟨Qc, hQc, oR.sub (List.sublist_append_right _ _)⟩
      have ob : OwR h1 h5 b ((partsOf g).map toI) := ⟨Qb, hQb, oR.sub (List.sublist_append_left _ _)⟩
      refine sP _ _ _ _ _ (ow.rw r.ok) hn fun a2 h6 pa2 => ⟨a2, rfl, ?_⟩
      refine sS _ _ _ _ _ _ _ (pa2.rw_ hn) ((ob.rw (parts_ok hn)).ext pa2.ext_) (by rw [List.length_map]; omega) ⟨true, congrArg Value.bool (by simp), ?_⟩
      exact hk _
  exact key 0 (by omega) Qa h4 rfl hal o0
end Go.Proofs.Ytdndngngdngjjaa.Am
