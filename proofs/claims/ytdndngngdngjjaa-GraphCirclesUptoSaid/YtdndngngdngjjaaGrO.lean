/-
  Packed: The law of circles.
-/
import Derived.Test.YtdndngngdngjjaaGrN
namespace Go.Proofs.Ytdndngngdngjjaa.Am
open Go Go.Proofs Gr
set_option linter.unusedVariables false
set_option linter.unusedSimpArgs false
set_option maxRecDepth 100000
variable {D : Orc}

def cntB (n : Nat) (f : Nat → Bool) : Nat := ((List.range n).filter f).length
def off (f : Nat → Bool) (i : Nat) : Nat → Bool := fun x => if x = i then false else f x
theorem cntB_off {n i : Nat} {f : Nat → Bool} (hi : i < n) (h : f i = true) : cntB n (off f i) + 1 = cntB n f := by
  have key : ∀ m, cntB m (off f i) + (if i < m then 1 else 0) = cntB m f := by
    intro m
    induction m with
    | zero => simp [cntB]
    | succ m ih =>
      unfold cntB at ih ⊢
      rw [List.range_succ, List.filter_append, List.filter_append, List.length_append, List.length_append]
      by_cases hm : m = i
      · subst hm
        have e1 : off f m m = false := by simp [off]
        rw [if_neg (by omega)] at ih
        simp [e1, h]
        omega
      · have e1 : off f i m = f m := by simp [off, hm]
        have : (i < m + 1) = (i < m) := by
          apply propext; omega
        simp only [List.filter_cons, List.filter_nil, e1, this]
        omega
  have := key n
  rw [if_pos hi] at this
  exact this
theorem cntB_le {n : Nat} {f : Nat → Bool} : cntB n f ≤ n := by
  unfold cntB
  exact Nat.le_trans (List.length_filter_le _ _) (by simp)
theorem cntB_pos {n : Nat} {f : Nat → Bool} (h : 0 < cntB n f) : ∃ x, x < n ∧ f x = true := by
  unfold cntB at h
  obtain ⟨x, hx⟩ := List.exists_mem_of_length_pos h
  rw [List.mem_filter, List.mem_range] at hx
  exact ⟨x, hx⟩
theorem cntB_all {n : Nat} {f : Nat → Bool} (h : ∀ x, x < n → f x = true) : cntB n f = n := by
  unfold cntB
  rw [List.filter_eq_self.mpr fun x hx => h x (List.mem_range.mp hx), List.length_range]
section
variable {h0 h : H} {b n i : Nat} {f : Nat → Bool}
def lay2 (b n : Nat) (f : Nat → Bool) : List Res := [cellR b (arr n fun x => .bool (f x))]
def sl2 (b n : Nat) : Value := .slice (some ⟨b, 0, none⟩) n n
theorem ld2 (o : Hp h0 h (lay2 b n f)) (hi : i < n) {K : Bool → Prop} (hK : K (f i)) : slAtW (sl2 b n) (i : Int) 1 fun ad => ∃ x : Bool, rd h ad = some (.bool x) ∧ K x :=
  ldAB (o.cell (i := 0) rfl) hi (arr_get hi) hK
theorem st2 (o : Hp h0 h (lay2 b n f)) (hi : i < n) {t : Bool} {T : Prop} (hT : T) {K : H → Prop} (hK : ∀ h', Hp h0 h' (lay2 b n (fun x => if x = i then t else f x)) → K h') :
    slAtW (sl2 b n) (i : Int) 1 fun ad => one (.bool t) = true ∧ T ∧ ∃ h', wr1 h ad (.bool t) = some h' ∧ K h' :=
  o.stA (i := 0) rfl hi (by rw [arr_len]; exact hi) rfl hT fun h' o' => hK h' (by rw [arr_setB] at o'; exact o')
theorem lay2_congr {f' : Nat → Bool} (o : Hp h0 h (lay2 b n f)) (h1 : ∀ x, x < n → f x = f' x) : Hp h0 h (lay2 b n f') := by
  have : arr n (fun x => .bool (f x)) = arr n fun x => .bool (f' x) := by
    unfold arr
    exact List.map_congr_left fun i hi => by rw [h1 i (List.mem_range.mp hi)]
  unfold lay2 at o ⊢
  rw [← this]; exact o
end
theorem cntB_congr {n : Nat} {f f' : Nat → Bool} (h : ∀ x, x < n → f x = f' x) : cntB n f = cntB n f' := by
  unfold cntB
  rw [List.filter_congr fun x hx => h x (List.mem_range.mp hx)]
/-- Whether a node leads to nothing that is left. -/
def okE (n : Nat) (f : Nat → Bool) (x : Int) : Prop := ∀ y : Nat, x = (y : Int) → y < n → f y = false
theorem cls_nodup (g : G) (x : Nat) : (cls g x).Nodup := (cls_sorted g x).imp fun {a b} h e => by omega
theorem pass {D : Orc} {g : G} {v : Value} {h1 : H} (r1 : Rw h1 v g) (hn : g.length < 2 ^ 40) (hle : g.length ≤ 200) {b : Nat} {f0 : Nat → Bool} {was : Nat} (hw : was = cntB g.length f0) {s0 : Nat} (hs0 : s0 < g.length ∧ f0 s0 = true) (hsink : ∀ z, z < g.length → f0 z = true → ¬ Gr.Edge g s0 z)
    {K : Kl} (hK : ∀ f h', Hp h1 h' (lay2 b g.length f) → (∀ x, f x = true → f0 x = true) → cntB g.length f < was → K (X.e 8) [v, .bool true, sl2 b g.length, nZ (cntB g.length f), nZ was] h')
    {h2 : H} (o : Hp h1 h2 (lay2 b g.length f0)) : loop4_27 D [v, .bool true, sl2 b g.length, nZ was, nZ was, nZ 0] h2 K := by
  intro I hI
  have hwl : was ≤ g.length := by rw [hw]; exact cntB_le
  have key := down_ind (P := fun i => ∀ (f : Nat → Bool) (h5 : H), Hp h1 h5 (lay2 b g.length f) → (∀ x, f x = true → f0 x = true) → cntB g.length f ≤ was → ((i ≤ s0 ∧ f s0 = true) ∨ cntB g.length f < was) → I [v, .bool true, sl2 b g.length, nZ (cntB g.length f), nZ was, nZ i] h5) g.length fun i hi ih f h5 o hsub hcl hor => by
    refine hI _ _ _ _ _ _ _ ?_
    unfold round4_27
    have r5 := r1.ext o.ext
    rw [boolW_bool, intK_int, intK_int, intK_int, r5.len_, cond_dec]
    refine ⟨fun hlt => ?_, fun hge => ?_⟩
    · have hi' : i < g.length := by omega
      obtain ⟨t, ht⟩ : ∃ t, g[i]? = some t := ⟨_, List.getElem?_eq_getElem hi'⟩
      have htl := (r1.ok t (List.mem_of_getElem? ht)).1
      refine ld2 o hi' ?_
      intro I2 hI2
      have hcn := cntB_le (n := g.length) (f := f)
      have fin : ∀ fr : Bool, (fr = true ↔ f i = true ∧ ∀ x ∈ t, okE g.length f x) → boolW (.bool true) (fun t109 => intK IntKind.i64 (nZ (cntB g.length f)) (fun x110 => intK IntKind.i64 (nZ was) (fun x111 => intK IntKind.i64 (nZ i) (fun x112 => boolW (.bool fr) (fun t113 => cond t113 (
          slAtW (sl2 b g.length) x112 1 (fun ad114 => one (Value.bool false) = true ∧ 1 = 1 ∧ ∃ h115, wr1 h5 ad114 (Value.bool false) = some h115 ∧ j4_27_28 D I K v (Value.bool t109) (sl2 b g.length) (Value.int IntKind.i64 (IntKind.wrap IntKind.i64 (x110 - (1 : Int)))) (Value.int IntKind.i64 x111) (Value.int IntKind.i64 x112) h115)) (
          j4_27_28 D I K v (Value.bool t109) (sl2 b g.length) (Value.int IntKind.i64 x110) (Value.int IntKind.i64 x111) (Value.int IntKind.i64 x112) h5)))))) := by
        intro fr hfr
        rw [boolW_bool, intK_int, intK_int, intK_int, boolW_bool]
        cases fr with
        | true =>
          rw [cond_true]
          obtain ⟨hfi, hall⟩ := hfr.mp rfl
          have hcc := cntB_off hi' hfi
          refine st2 o hi' rfl fun h6 o6 => ?_
          unfold j4_27_28
          rw [boolW_bool, intK_int, intK_int, intK_int, i64_id (by omega) (by omega), i64_id (by omega) (by omega)]
          have e : ((cntB g.length f : Nat) : Int) - 1 = ((cntB g.length (off f i) : Nat) : Int) := by omega
          rw [e]
          exact ih hi' (off f i) h6 o6 (fun x hx => hsub x (by
            unfold off at hx
            split at hx
            · cases hx
            · exact hx)) (by omega) (.inr (by omega))
        | false =>
          rw [cond_false]
          unfold j4_27_28
          rw [boolW_bool, intK_int, intK_int, intK_int, i64_id (by omega) (by omega)]
          refine ih hi' f h5 o hsub hcl ?_
          rcases hor with ⟨h1', h2'⟩ | h1'
          · by_cases his : i = s0
            · exfalso
              subst his
              have : false = true := hfr.mpr ⟨h2', fun x hx y hy hyn => by
                cases hfy : f y with
                | false => rfl
                | true =>
                  refine absurd ⟨hi', hyn, ?_⟩ (hsink y hyn (hsub y hfy))
                  rw [List.getD_eq_getElem?_getD, ht, ← hy]; exact hx⟩
              cases this
            · exact .inl ⟨by omega, h2'⟩
          · exact .inr h1'
      have key2 := down_ind (P := fun m => ∀ fr : Bool, (fr = true ↔ f i = true ∧ ∀ m' x, m' < m → t[m']? = some x → okE g.length f x) → I2 [v, .bool true, sl2 b g.length, nZ (cntB g.length f), nZ was, nZ i, .bool fr, nZ m] h5) t.length fun m hm ih2 fr hfr => by
        refine hI2 _ _ _ _ _ _ _ _ _ ?_
        unfold round4_31
        rw [boolW_bool, intK_int, intK_int, intK_int, boolW_bool, intK_int]
        have at3 : ∀ {K : Addr → Prop}, (∀ ad u, rd h5 ad = some u → Ir h5 u t → K ad) → slAtW v (i : Int) 1 K := fun hk => by
          refine r5.at_ (by omega) (by omega) fun ad u t' ht' hrd hix => ?_
          rw [Int.toNat_natCast, ht] at ht'
          obtain rfl := Option.some.inj ht'
          exact hk ad u hrd hix
        refine at3 fun ad u hrd hix => ⟨u, hrd, ?_⟩
        rw [hix.len_, cond_dec]
        refine ⟨fun hlt2 => ?_, fun hge2 => ?_⟩
        · have hm' : m < t.length := by omega
          cases fr with
          | false =>
            rw [cond_false]
            dsimp only
            rw [xs_e]
            show cond true _ _
            rw [cond_true]
            refine fin false ⟨fun h => (by cases h), fun ⟨h1', h2'⟩ => ?_⟩
            exact hfr.mpr ⟨h1', fun m' x _ hx => h2' x (List.mem_of_getElem? hx)⟩
          | true =>
            rw [cond_true]
            obtain ⟨hfi, hpre⟩ := hfr.mp rfl
            refine at3 fun ad u hrd hix => ⟨u, hrd, hix.at_ (by omega) (by omega) fun ad2 x hx hxi hrd2 => ⟨x, hrd2, ?_⟩⟩
            rw [Int.toNat_natCast] at hx
            have next : ∀ (fr' : Bool) K, (fr' = true ↔ okE g.length f x) → j4_31_32 D I2 K v (.bool true) (sl2 b g.length) (nZ (cntB g.length f)) (nZ was) (nZ i) (.bool fr') (nZ m) h5 := fun fr' K hfr' => by
              unfold j4_31_32
              rw [boolW_bool, intK_int, intK_int, intK_int, boolW_bool, intK_int, i64_id (by omega) (by omega)]
              refine ih2 hm' fr' ⟨fun h => ⟨hfi, fun m' x' hm'' hx' => ?_⟩, fun h => hfr'.mpr (h.2 m x (by omega) hx)⟩
              by_cases hmm : m' = m
              · subst hmm
                rw [hx] at hx'
                obtain rfl := Option.some.inj hx'
                exact hfr'.mp h
              · exact hpre m' x' (by omega) hx'
            rw [cond_not, cond_dec]
            refine ⟨fun hneg => next true _ ⟨fun _ y hy _ => by omega, fun _ => rfl⟩, fun hnn => ?_⟩
            rw [r5.len_, cond_not, cond_dec]
            refine ⟨fun hbig => next true _ ⟨fun _ y hy hyn => by omega, fun _ => rfl⟩, fun hsm => ?_⟩
            obtain ⟨y, rfl⟩ := Int.eq_ofNat_of_zero_le (show 0 ≤ x by omega)
            have hy : y < g.length := by omega
            refine ld2 o hy (next (!f y) _ ?_)
            constructor
            · intro h y' hy' _
              obtain rfl : y = y' := by omega
              simpa using h
            · intro h
              have := h y rfl hy
              rw [this]; rfl
        · dsimp only
          rw [xs_e]
          show cond true _ _
          rw [cond_true]
          refine fin fr (hfr.trans ⟨fun ⟨h1', h2'⟩ => ⟨h1', fun x hx => ?_⟩, fun ⟨h1', h2'⟩ => ⟨h1', fun m' x _ hx => h2' x (List.mem_of_getElem? hx)⟩⟩)
          obtain ⟨m', hm'⟩ := List.getElem?_of_mem hx
          exact h2' m' x (by have := (List.getElem?_eq_some_iff.mp hm').1; omega) hm'
      exact key2 0 (by omega) (f i) ⟨fun h => ⟨h, fun m' x h1' _ => by omega⟩, fun h => h.1⟩
    · refine hK f h5 o hsub ?_
      rcases hor with ⟨h1', _⟩ | h1'
      · omega
      · exact h1'
  have := key 0 (by omega) f0 h2 o (fun _ h => h) (by omega) (.inl ⟨by omega, hs0.2⟩)
  rw [← hw] at this
  exact this
theorem circle_end {D : Orc} {g : G} {v : Value} {h1 : H} (r1 : Rw h1 v g) (hn : g.length < 2 ^ 40) (hle : g.length ≤ 200) {b : Nat} {K : Kl} (hK : ∀ h', K (X.e 6) [.bool true] h')
    {f : Nat → Bool} {h2 : H} (o : Hp h1 h2 (lay2 b g.length f)) (hf : ∀ x, x < g.length → f x = true → ¬ Gr.Way g x x) : loop4_24 D [v, .bool true, sl2 b g.length, nZ (cntB g.length f)] h2 K := by
  intro I hI
  have key : ∀ (n : Nat) (f : Nat → Bool) (h2 : H), cntB g.length f ≤ n → Hp h1 h2 (lay2 b g.length f) → (∀ x, x < g.length → f x = true → ¬ Gr.Way g x x) → I [v, .bool true, sl2 b g.length, nZ (cntB g.length f)] h2 := by
    intro n
    induction n with
    | zero =>
      intro f h2 hc o hf
      refine hI _ _ _ _ _ ?_
      unfold round4_24
      rw [boolW_bool, intK_int, cond_dec]
      exact ⟨fun hp => by omega, fun _ => hK _⟩
    | succ n ih =>
      intro f h2 hc o hf
      refine hI _ _ _ _ _ ?_
      unfold round4_24
      rw [boolW_bool, intK_int, cond_dec]
      refine ⟨fun hp => ?_, fun _ => hK _⟩
      obtain ⟨x, hx, hfx⟩ := cntB_pos (n := g.length) (f := f) (by omega)
      obtain ⟨s0, ⟨hs0, hfs⟩, hsink⟩ := sink (g := g) (S := fun x => x < g.length ∧ f x = true) (fun x h => ⟨h.1, hf x h.1 h.2⟩) ⟨hx, hfx⟩
      refine pass r1 hn hle rfl ⟨hs0, hfs⟩ (fun z hz hfz e => hsink z ⟨hz, hfz⟩ e) (fun f' h' o' hsub hlt => ?_) o
      dsimp only
      rw [xs_e]
      show cond true _ _
      rw [cond_true]
      show boolW (.bool true) _
      rw [boolW_bool]
      show intK _ (nZ (cntB g.length f')) _
      rw [intK_int]
      show intK _ (nZ (cntB g.length f)) _
      rw [intK_int, cond_eq]
      refine ⟨fun he => by omega, fun _ => ?_⟩
      exact ih f' h' (by omega) o' fun x hx hfx => hf x hx (hsub x hfx)
  exact key _ f h2 (Nat.le_refl _) o hf
theorem spec4 (c : Cl4 D) (sh : SpecShown D 9) (sP : SpecParts D 11) {v : Value} {g : G} {h : H} {k : Kv} {kp : Kp} (r : Rw h v g) (hn : g.length < 2 ^ 40)
    (hk : ∀ h', k (.bool true) h') : D 4 [v] h k kp := by
  refine c _ _ _ _ ?_
  unfold F4
  refine sh _ _ _ fun h1 e1 => ⟨true, rfl, ?_⟩
  have r1 := r.ext e1
  have hpl := partsOf_len2 g
  rw [Bool.not_true, cond_false, r1.len_, cond_dec]
  refine ⟨fun _ => hk _, fun hle => ?_⟩
  refine sP _ _ _ _ _ r1 hn fun a h2 pa => ⟨a, rfl, ?_⟩
  have ra : Rw h2 a (pI g) := pa.rw_ hn
  have hall : (pI g).length = (partsOf g).length := by unfold pI; rw [List.length_map]
  have r2 := r1.ext pa.ext_
  rw [r2.len_]
  refine (Hp.nil_ h2).mkS (by omega) (by decide) fun b h3 f2 o2 => ?_
  rw [(r2.ext o2.ext).len_]
  have o2 : Hp h2 h3 (lay2 b g.length (fun x => decide (x < 0))) := by
    rw [arr_rep] at o2
    exact lay2_congr (f := fun _ => false) o2 fun x _ => by simp
  intro I hI
  have key := down_ind (P := fun i => ∀ h4, Hp h2 h4 (lay2 b g.length (fun x => decide (x < i))) → I [v, .bool true, a, sl2 b g.length, nZ g.length, nZ i] h4) g.length fun i hi ih h4 o => by
    refine hI _ _ _ _ _ _ _ ?_
    unfold round4_10
    rw [boolW_bool, intK_int, intK_int, (r2.ext o.ext).len_, cond_dec]
    refine ⟨fun hlt => ?_, fun hge => ?_⟩
    · have hi' : i < g.length := by omega
      refine st2 o hi' rfl fun h5 o5 => ?_
      rw [i64_id (by omega) (by omega)]
      refine ih hi' h5 (lay2_congr o5 fun x hx => ?_)
      by_cases hxi : x = i
      · subst hxi; simp
      · rw [if_neg hxi, decide_eq_decide]; omega
    · dsimp only
      rw [xs_e]
      show cond true _ _
      rw [cond_true]
      show boolW (.bool true) _
      rw [boolW_bool]
      show intK _ (nZ g.length) _
      rw [intK_int]
      have o := lay2_congr (f' := fun x => decide (x ∉ ((partsOf g).take 0).flatten)) o fun x hx => by simp; omega
      have hc0 : g.length = cntB g.length fun x => decide (x ∉ ((partsOf g).take 0).flatten) := (cntB_all fun x _ => by simp).symm
      intro I2 hI2
      have key2 := down_ind (P := fun i => ∀ h4, Hp h2 h4 (lay2 b g.length (fun x => decide (x ∉ ((partsOf g).take i).flatten))) → I2 [v, .bool true, a, sl2 b g.length, nZ (cntB g.length fun x => decide (x ∉ ((partsOf g).take i).flatten)), nZ i] h4) (partsOf g).length fun i hi ih2 h4 o => by
        refine hI2 _ _ _ _ _ _ _ ?_
        unfold round4_14
        have ra4 := ra.ext o.ext
        rw [boolW_bool, intK_int, intK_int, ra4.len_, hall, cond_dec]
        refine ⟨fun hlt => ?_, fun hge => ?_⟩
        · have hi' : i < (partsOf g).length := by omega
          obtain ⟨p, hp⟩ : ∃ p, (partsOf g)[i]? = some p := ⟨_, List.getElem?_eq_getElem hi'⟩
          have hpt : (pI g)[i]? = some (toI p) := by unfold pI; rw [List.getElem?_map, hp]; rfl
          have hpl2 := partsOf_len (List.mem_of_getElem? hp)
          have hpnd : p.Nodup := by
            obtain ⟨x, _, _, _, rfl⟩ := mem_partsOf.mp (List.mem_of_getElem? hp)
            exact cls_nodup g x
          have hdisj : ∀ x ∈ p, x ∉ ((partsOf g).take i).flatten := fun x hx hm => by
            obtain ⟨q, hq, hxq⟩ := List.mem_flatten.mp hm
            obtain ⟨j, hj⟩ := List.getElem?_of_mem hq
            rw [List.getElem?_take] at hj
            split at hj
            · rename_i hji
              have := parts_once hj hp hxq hx
              omega
            · cases hj
          have hm0 : ∀ m, m ≤ p.length → ∀ x, (x ∉ ((partsOf g).take i).flatten ∧ x ∉ p.take m) ↔ x ∉ ((partsOf g).take i).flatten ++ p.take m := fun m _ x => by rw [List.mem_append, not_or]
          intro I3 hI3
          have key3 := down_ind (P := fun m => ∀ h5, Hp h2 h5 (lay2 b g.length (fun x => decide (x ∉ ((partsOf g).take i).flatten ++ p.take m))) → I3 [v, .bool true, a, sl2 b g.length, nZ (cntB g.length fun x => decide (x ∉ ((partsOf g).take i).flatten ++ p.take m)), nZ i, nZ m] h5) p.length fun m hm ih3 h5 o5 => by
            refine hI3 _ _ _ _ _ _ _ _ ?_
            unfold round4_17
            rw [boolW_bool, intK_int, intK_int, intK_int]
            have ra5 := ra.ext o5.ext
            have at3 : ∀ {K : Addr → Prop}, (∀ ad u, rd h5 ad = some u → Ir h5 u (toI p) → K ad) → slAtW a (i : Int) 1 K := fun hk => by
              refine ra5.at_ (by omega) (by omega) fun ad u t' ht' hrd hix => ?_
              rw [Int.toNat_natCast, hpt] at ht'
              obtain rfl := Option.some.inj ht'
              exact hk ad u hrd hix
            refine at3 fun ad u hrd hix => ⟨u, hrd, ?_⟩
            have hpil : (toI p).length = p.length := by simp [toI]
            rw [hix.len_, hpil, cond_dec]
            refine ⟨fun hlt2 => ?_, fun hge2 => ?_⟩
            · have hm' : m < p.length := by omega
              refine at3 fun ad u hrd hix => ⟨u, hrd, hix.at_ (by omega) (by omega) fun ad2 x hx hxi hrd2 => ⟨x, hrd2, ?_⟩⟩
              rw [Int.toNat_natCast] at hx
              have hy : ∃ y, p[m]? = some y ∧ x = (y : Int) := by
                unfold toI at hx
                rw [List.getElem?_map, Option.map_eq_some_iff] at hx
                obtain ⟨y, h1, h2⟩ := hx
                exact ⟨y, h1, h2.symm⟩
              obtain ⟨y, hy, rfl⟩ := hy
              have hym := List.mem_of_getElem? hy
              have hyn := partsOf_lt (List.mem_of_getElem? hp) hym
              rw [cond_not, cond_dec]
              refine ⟨fun hneg => by omega, fun _ => ?_⟩
              rw [(r2.ext o5.ext).len_, cond_not, cond_dec]
              refine ⟨fun hbig => by omega, fun _ => ?_⟩
              refine ld2 o5 hyn ?_
              have hynot : y ∉ ((partsOf g).take i).flatten ++ p.take m := by
                rw [← hm0 m (by omega)]
                refine ⟨hdisj y hym, fun hh => ?_⟩
                have h1 := hpnd
                rw [← List.take_append_drop m p, List.nodup_append] at h1
                refine h1.2.2 y hh y ?_ rfl
                rw [(split_at hy).2.2]; simp
              rw [decide_eq_true hynot, Bool.not_true]
              unfold j4_17_21
              rw [boolW_bool, intK_int, intK_int, intK_int, intK_int, boolW_bool, cond_false]
              refine st2 o5 hyn rfl fun h6 o6 => ?_
              have hcn := cntB_le (n := g.length) (f := fun x => decide (x ∉ ((partsOf g).take i).flatten ++ p.take m))
              have hcc := cntB_off (f := fun x => decide (x ∉ ((partsOf g).take i).flatten ++ p.take m)) hyn (decide_eq_true hynot)
              have hext : ∀ x, x < g.length → off (fun x => decide (x ∉ ((partsOf g).take i).flatten ++ p.take m)) y x = decide (x ∉ ((partsOf g).take i).flatten ++ p.take (m + 1)) := fun x _ => by
                unfold off
                have e := (split_at hy).2.1
                by_cases hxy : x = y
                · rw [if_pos hxy]
                  symm
                  rw [decide_eq_false_iff_not, Classical.not_not, e, hxy]
                  simp
                · rw [if_neg hxy, decide_eq_decide, e, ← List.append_assoc, List.mem_append (t := [y]), List.mem_singleton, not_or]
                  exact ⟨fun h => ⟨h, hxy⟩, fun h => h.1⟩
              rw [i64_id (by omega) (by omega), i64_id (by omega) (by omega)]
              have e2 : ((cntB g.length (fun x => decide (x ∉ ((partsOf g).take i).flatten ++ p.take m)) : Nat) : Int) - 1 = ((cntB g.length (fun x => decide (x ∉ ((partsOf g).take i).flatten ++ p.take (m + 1))) : Nat) : Int) := by
                rw [← cntB_congr hext]; omega
              rw [e2]
              exact ih3 hm' h6 (lay2_congr o6 hext)
            · dsimp only
              rw [xs_e]
              show cond true _ _
              rw [cond_true]
              show boolW (.bool true) _
              rw [boolW_bool]
              show intK _ (nZ _) _
              rw [intK_int]
              show intK _ (nZ i) _
              rw [intK_int, i64_id (by omega) (by omega)]
              have e : ((partsOf g).take (i + 1)).flatten = ((partsOf g).take i).flatten ++ p.take m := by
                have ep : p.take m = p := List.take_of_length_le (by omega)
                rw [(split_at hp).2.1, List.flatten_append, ep]; simp
              have := ih2 hi' h5 (by rw [e]; exact o5)
              rw [e] at this
              exact this
          have e0 : ((partsOf g).take i).flatten ++ p.take 0 = ((partsOf g).take i).flatten := by rw [List.take_zero, List.append_nil]
          have := key3 0 (by omega) h4 (by rw [e0]; exact o)
          rw [e0] at this
          exact this
        · dsimp only
          rw [xs_e]
          show cond true _ _
          rw [cond_true]
          show boolW (.bool true) _
          rw [boolW_bool]
          show intK _ (nZ _) _
          rw [intK_int]
          refine circle_end (r2.ext (Ext.refl _)) hn (by omega) (fun h' => ?_) o fun x hx hfx hw => ?_
          · rw [xs_e]
            show cond true _ _
            rw [cond_true]
            show boolW (.bool true) _
            rw [boolW_bool]
            exact hk _
          · rw [decide_eq_true_eq, List.take_of_length_le (by omega)] at hfx
            obtain ⟨p, hp, hxp⟩ := (partsOf_all g).all x hx hw
            exact hfx (List.mem_flatten.mpr ⟨p, hp, hxp⟩)
      have := key2 0 (by omega) h4 o
      rw [← hc0] at this
      exact this
  exact key 0 (by omega) h3 o2
end Go.Proofs.Ytdndngngdngjjaa.Am
