/-
  Packed: What stands for a capped row; an edge where one pair truly follows another one: plain. Binds in memory; a variable's bind; what binds make of a row. Matching, by the document: what is bound are terms; the binds put in order. All redexes, and one rewritten: by the document. Places of a term, a part put anew: by the document. A left side that matches; binds that are right; a step below the root: the law's own functions. The law: where a pair truly follows another one, there is an edge.
-/
import Derived.Test.YtnlhnlmnlfmojaaGreatDoorPkQ
import Derived.Test.YtnlhnlmnlfmojaaGreatDoorAmFnsQ
set_option linter.unusedVariables false
set_option linter.unusedSimpArgs false
set_option linter.unnecessarySimpa false
namespace Go.Proofs.YtnlhnlmnlfmojaaGreatDoor.Am
open Go Go.Proofs Sys Go.Lib
set_option linter.unusedVariables false
set_option linter.unusedSimpArgs false
/-- What a capped row may stand for: any term for each variable and each term with a symbol of the list at its root. -/
inductive Inst (sig : Sg) (d : List Int) : List Int → List Int → Prop
  | nil : Inst sig d [] []
  | cut {c : Int} {u r v t : List Int} : (c < 0 ∨ c ∈ d) → isTerm sig (c :: u) → isTerm sig v → Inst sig d r t → Inst sig d ((c :: u) ++ r) (v ++ t)
  | keep {c : Int} {r t : List Int} : 0 ≤ c → c ∉ d → Inst sig d r t → Inst sig d (c :: r) (c :: t)
variable {sig : Sg} {d : List Int}
theorem inst_app {τ : Int → List Int} (hτ : Sub sig τ) : ∀ (n : Nat) (l : List Int) (k : Nat), l.length ≤ n → scan sig k l = 0 → Inst sig d l (app τ l)
  | n, [], k, _, _ => .nil
  | 0, c :: l, k, hn, _ => by simp at hn
  | n + 1, c :: l, 0, hn, h => by simp [scan] at h
  | n + 1, c :: l, k + 1, hn, h => by
    by_cases hc : c < 0 ∨ c ∈ d
    · obtain ⟨us, h1, h2, h3⟩ := split_terms _ _ h
      cases us with
      | nil => simp at h1
      | cons u us =>
        have hu := h2 u (by simp)
        rw [List.flatten_cons] at h3
        obtain ⟨c', u', rfl⟩ := List.exists_cons_of_ne_nil (isTerm_ne hu)
        obtain ⟨rfl, h4⟩ : c' = c ∧ u' ++ us.flatten = l := by simpa using h3
        rw [← h3, app_append]
        refine .cut hc hu (app_term hτ hu) (inst_app hτ n _ us.length ?_ (scan_flat sig us fun v hv => h2 v (by simp [hv])))
        have := congrArg List.length h4
        simp only [List.length_append, List.length_cons] at this hn
        omega
    · have hc0 : ¬ c < 0 := fun h => hc (.inl h)
      have h' := h
      unfold scan at h'
      split at h'
      · simp at h'
      · rw [app_pos hc0]
        exact .keep (by omega) (fun h => hc (.inr h)) (inst_app hτ n l _ (by simpa using hn) h')
theorem scan_swap {w x : List Int} (hw : isTerm sig w) (hx : isTerm sig x) : ∀ (a : List Int) (n : Nat) (r : List Int), scan sig n (a ++ (w ++ r)) = 0 → scan sig n (a ++ (x ++ r)) = 0
  | [], 0, r, h => by
    obtain ⟨c, w', rfl⟩ := List.exists_cons_of_ne_nil (isTerm_ne hw)
    simp [scan] at h
  | [], n + 1, r, h => by
    rw [List.nil_append] at h ⊢
    rw [Nat.add_comm, scan_add sig _ 1 n r hw] at h
    rw [Nat.add_comm, scan_add sig _ 1 n r hx]; exact h
  | c :: a, 0, r, h => by simp [scan] at h
  | c :: a, n + 1, r, h => by
    rw [List.cons_append] at h ⊢
    unfold scan at h ⊢
    split at h
    · simp at h
    · rename_i hb
      rw [if_neg hb]
      exact scan_swap hw hx a _ r h
theorem inst_step {l t : List Int} (h : Inst sig d l t) {c : Int} {w' x b : List Int} (hc : c ∈ d) (hw : isTerm sig (c :: w')) (hx : isTerm sig x) : ∀ {a : List Int}, t = a ++ ((c :: w') ++ b) → Inst sig d l (a ++ (x ++ b)) := by
  induction h with
  | nil => intro a e; simp at e
  | @cut c0 u r v t hc0 hu hv h1 ih =>
    intro a e
    rcases List.append_eq_append_iff.mp e with ⟨a', ha, ht⟩ | ⟨c', hv', ht⟩
    · rw [ha, List.append_assoc]
      exact .cut hc0 hu hv (ih ht)
    · by_cases hn : c' = []
      · subst hn
        rw [List.append_nil] at hv'
        rw [List.nil_append] at ht
        have := ih (a := []) (by rw [← ht]; rfl)
        rw [← hv']
        exact .cut hc0 hu hv this
      · have hlt : a.length < v.length := by
          rw [hv', List.length_append]
          have := List.length_pos_iff.mpr hn
          omega
        obtain ⟨u1, r1, hd1, hu1⟩ := scan_at sig v 1 a.length hv hlt
        have e1 : c' = u1 ++ r1 := by rw [← hd1, hv', List.drop_left]
        rw [e1, List.append_assoc] at ht
        obtain ⟨e2, e3⟩ := term_prefix hw hu1 ht
        rw [e3, e2] at *
        have hv2 : isTerm sig (a ++ (x ++ r1)) := scan_swap hu1 hx a 1 r1 (by rw [← e1, ← hv']; exact hv)
        have := Inst.cut hc0 hu hv2 h1
        rwa [List.append_assoc, List.append_assoc] at this
  | @keep c0 r t h0 hn h1 ih =>
    intro a e
    cases a with
    | nil =>
      rw [List.nil_append, List.cons_append] at e
      obtain ⟨rfl, _⟩ := List.cons.inj e
      exact absurd hc hn
    | cons y a =>
      rw [List.cons_append] at e
      obtain ⟨rfl, e2⟩ := List.cons.inj e
      exact .keep h0 hn (ih e2)
theorem cap_codes {l o : List Int} {f g : Nat} (h : Cap sig d l f o g) : ∀ c ∈ o, c < 0 → c ≤ -1 - (f : Int) ∧ -1 - (g : Int) < c := by
  induction h with
  | nil => intro c hc; cases hc
  | cut _ _ h1 ih =>
    intro c hc h0
    have := h1.len
    rcases List.mem_cons.mp hc with rfl | hc
    · omega
    · have := ih c hc h0
      omega
  | keep h0 _ _ ih =>
    intro c hc hn
    rcases List.mem_cons.mp hc with rfl | hc
    · omega
    · exact ih c hc hn
theorem app_cong {τ τ' : Int → List Int} : ∀ {o : List Int}, (∀ c ∈ o, c < 0 → τ c = τ' c) → app τ o = app τ' o
  | [], _ => rfl
  | c :: o, h => by
    have ih := app_cong (o := o) fun x hx => h x (by simp [hx])
    by_cases hc : c < 0
    · rw [app_neg hc, app_neg hc, ih, h c (by simp) hc]
    · rw [app_pos hc, app_pos hc, ih]
theorem inst_cap {l t : List Int} (h : Inst sig d l t) : ∀ f : Nat, ∃ o g ρ, Cap sig d l f o g ∧ Sub sig ρ ∧ app ρ o = t := by
  induction h with
  | nil => exact fun f => ⟨[], f, fun _ => [-1], .nil, fun c => by unfold isTerm scan badC; simp [kids, scan]; omega, rfl⟩
  | @cut c u r v t hc hu hv h1 ih =>
    intro f
    obtain ⟨o, g, ρ, h2, h3, h4⟩ := ih (f + 1)
    refine ⟨_, _, fun c => if c = -1 - (f : Int) then v else ρ c, .cut hc hu h2, fun c => ?_, ?_⟩
    · dsimp only
      split
      · exact hv
      · exact h3 c
    · rw [app_neg (by omega), if_pos rfl, ← h4]
      congr 1
      refine app_cong fun c hc h0 => ?_
      have := (cap_codes h2 c hc h0).1
      rw [if_neg (by omega)]
  | keep h0 hn h1 ih =>
    intro f
    obtain ⟨o, g, ρ, h2, h3, h4⟩ := ih f
    exact ⟨_, _, ρ, .keep h0 hn h2, h3, by rw [app_pos (by omega), h4]⟩
theorem cap_scan {l o : List Int} {f g : Nat} (h : Cap sig d l f o g) (hg : g ≤ 1048576) : ∀ k, scan sig k l = 0 → scan sig k o = 0 := by
  induction h with
  | nil => exact fun k h => h
  | @cut c u r o f g hc hu h1 ih =>
    intro k hk
    have hl := h1.len
    cases k with
    | zero => simp [scan] at hk
    | succ k =>
      rw [Nat.add_comm, scan_add sig _ 1 k r hu] at hk
      unfold scan
      have hb : badC sig.length (-1 - (f : Int)) = false := by simp [badC]; omega
      rw [hb, if_neg (by simp)]
      have : kids sig (-1 - (f : Int)) = 0 := by unfold kids; rw [if_pos (by omega)]
      rw [this]
      exact ih hg k hk
  | keep h0 hn h1 ih =>
    intro k hk
    cases k with
    | zero => simp [scan] at hk
    | succ k =>
      unfold scan at hk ⊢
      split at hk
      · simp at hk
      · rename_i hb
        rw [if_neg hb]
        exact ih hg _ hk
theorem chk_of {sig : List Sy} (h : chkSig sig = 0) {l : List Int} (hl : isTerm (S2 sig) l) : chkTerm sig l = 0 := by
  unfold chkTerm
  rw [if_neg (by rw [h]; simp)]
  exact hl
/-- Binds for what is shifted: those of the left side. -/
theorem app_shift {g : Nat} {M : List Int} {τ σ : Int → List Int} (hσ : ∀ (i : Nat) c, M[i]? = some c → σ (-1 - (i : Int) - (g : Int)) = τ c) : ∀ (l : List Int), (∀ c ∈ l, c < 0 → c ∈ M) → app σ ((l.map (renum M)).map (shC ((g : Nat) : Int))) = app τ l
  | [], _ => rfl
  | c :: l, h => by
    have ih := app_shift hσ l fun x hx => h x (by simp [hx])
    rw [List.map_cons, List.map_cons]
    by_cases hc : c < 0
    · have hm := h c (by simp) hc
      have e : renum M c = -1 - (M.idxOf c : Int) := by unfold renum; rw [if_pos hc]
      have e2 : shC ((g : Nat) : Int) (renum M c) = -1 - (M.idxOf c : Int) - (g : Int) := by rw [e]; unfold shC; rw [if_pos (by omega)]
      rw [e2, app_neg (by omega), app_neg hc, ih]
      congr 1
      refine hσ _ c ?_
      rw [List.getElem?_eq_getElem (List.idxOf_lt_length_of_mem hm), List.getElem_idxOf]
    · have e : shC ((g : Nat) : Int) (renum M c) = c := by unfold renum shC; rw [if_neg hc, if_neg hc]
      rw [e, app_pos hc, app_pos hc, ih]
/-- Where what stands for a pair's capped right side is an instance of another pair's left side, there is an edge. -/
theorem follow_edge {S : Sm} {pR qL t : List Int} {τ : Int → List Int} (h1 : rightS S = true) (h2 : mayB (extV S.sig) (S.sig.length : Int) pR = true) (h3 : mayB (extV S.sig) (S.sig.length : Int) qL = true)
    (hI : Inst (S2 (extV S.sig)) (defL S) pR.tail t) (hτ : Sub (S2 (extV S.sig)) τ) (he : app τ qL = pR.headD 0 :: t) : edgeB S pR qL = true := by
  obtain ⟨hcp, hp5, hpn⟩ := mayB_ok h2
  obtain ⟨hcq, hq5, hqn⟩ := mayB_ok h3
  obtain ⟨har, hpt⟩ := chkTerm_ok hcp
  have hqt := (chkTerm_ok hcq).2
  obtain ⟨cp, pr, rfl⟩ := List.exists_cons_of_ne_nil (isTerm_ne hpt)
  obtain ⟨cq, qr, rfl⟩ := List.exists_cons_of_ne_nil (isTerm_ne hqt)
  have hpn : (S.sig.length : Int) ≤ cp := hpn
  have hqn : (S.sig.length : Int) ≤ cq := hqn
  obtain ⟨o, g, ρ, hcap, hρ, hρt⟩ := inst_cap hI 0
  have hl := hcap.len
  have hsg : chkSig (extV S.sig) = 0 := by
    unfold chkTerm at hcp
    split at hcp
    · rename_i hne; exact absurd hcp hne
    · rename_i hne; exact Classical.not_not.mp hne
  have hqn' : ¬ cq < 0 := by omega
  rw [app_pos hqn'] at he
  obtain ⟨hh, he⟩ := List.cons.inj he
  have hh : cq = cp := hh
  subst hh
  simp only [List.tail_cons, List.length_cons] at hl hp5 hq5
  refine edge_yes h1 h2 h3 rfl hcap ?_
  show canB (extV S.sig) (cq :: o) _ = true
  have hM : canonGo [] (cq :: qr) = (cq :: qr).map (renum (mets (cq :: qr))) := canon_eq _
  let σ : Int → List Int := fun c => if c ≤ -1 - (g : Int) then τ ((mets (cq :: qr)).getD (-1 - c - (g : Int)).toNat 0) else ρ c
  have hs1 := scan_sym hpt (by omega)
  refine can_yes (τ := σ) (chk_of hsg ?_) (chk_of hsg ?_) (fun c => ?_) ?_
  · unfold isTerm scan
    have hpt' := hpt
    unfold isTerm scan at hpt'
    split at hpt'
    · simp at hpt'
    · rename_i hb
      rw [if_neg hb]
      exact cap_scan hcap (by omega) _ hpt'
  · have hlow : ∀ c ∈ canonGo [] (cq :: qr), c < 0 → -1 - ((([] : List Int).length + (cq :: qr).length : Nat) : Int) ≤ c := fun c hc hc0 => canon_low (cq :: qr) [] c hc hc0
    unfold isTerm
    rw [← scan_congr _ (cq :: qr) _ 1 (by simp [canonGo_len]) ?_]
    · exact hqt
    · intro i x y hx hy
      rw [List.getElem?_map] at hy
      cases hz : (canonGo [] (cq :: qr))[i]? with
      | none => rw [hz] at hy; simp at hy
      | some z =>
        rw [hz] at hy
        have hy : shC ((g : Nat) : Int) z = y := by simpa using hy
        have hzl := hlow z (List.mem_of_getElem? hz)
        simp only [List.length_nil, List.length_cons] at hzl
        have hxm := scan_codes _ _ 1 hqt x (List.mem_of_getElem? hx)
        rw [hM, List.getElem?_map, hx] at hz
        have hz : renum (mets (cq :: qr)) x = z := by simpa using hz
        unfold renum at hz
        unfold shC at hy
        by_cases h0 : x < 0
        · rw [if_pos h0] at hz
          rw [if_pos (by omega)] at hy
          exact .inr ⟨h0, by omega, hxm.1, by have := hzl (by omega); omega⟩
        · rw [if_neg h0] at hz
          subst hz
          rw [if_neg h0] at hy
          exact .inl hy
  · show isTerm _ (if _ then _ else _)
    split
    · exact hτ _
    · exact hρ _
  · rw [app_pos hqn', hM, app_shift (τ := τ) (fun i c hi => ?_) (cq :: qr) (fun c hc h0 => mem_mets.mpr ⟨hc, h0⟩), app_pos hqn', he, ← hρt]
    · congr 1
      refine app_cong fun c hc h0 => ?_
      have := (cap_codes hcap c hc h0).2
      show (if _ then _ else _) = _
      rw [if_neg (by omega)]
    · show (if _ then _ else _) = _
      rw [if_pos (by omega)]
      congr 1
      rw [show (-1 - (-1 - (i : Int) - (g : Int)) - (g : Int)).toNat = i by omega, List.getD_eq_getElem?_getD, hi]
      rfl
/-- Codes of the first symbols mean the same in the extended signature; marked ones have the arity of their own. -/
theorem kids_ext {sig : List Sy} (h : plainE sig = 0) {c : Int} (hc : c < sig.length) : kids (S2 (extV sig)) c = kids (S2 sig) c := by
  unfold kids
  split
  · rfl
  · unfold extV S2
    rw [if_pos h, List.map_append, List.getElem?_append_left (by simp; omega)]
theorem kids_mark {sig : List Sy} (h : plainE sig = 0) {c : Int} (h0 : 0 ≤ c) (hc : c < sig.length) : kids (S2 (extV sig)) (c + (sig.length : Int)) = kids (S2 sig) c := by
  unfold kids
  rw [if_neg (by omega), if_neg (by omega)]
  unfold extV S2
  rw [if_pos h, List.map_append, List.getElem?_append_right (by simp; omega)]
  simp only [List.length_map, List.map_map, List.getElem?_map]
  rw [show (c + (sig.length : Int)).toNat - sig.length = c.toNat by omega]
  cases sig[c.toNat]? with
  | none => rfl
  | some x => rfl
theorem ext_len {sig : List Sy} (h : plainE sig = 0) : (extV sig).length = 2 * sig.length := by
  unfold extV
  rw [if_pos h, List.length_append, List.length_map]; omega
theorem scan_ext {sig : List Sy} (h : plainE sig = 0) : ∀ (l : List Int) (n : Nat), scan (S2 sig) n l = 0 → scan (S2 (extV sig)) n l = 0
  | [], 0, _ => rfl
  | [], n + 1, hl => by simp [scan] at hl
  | c :: l, 0, hl => by simp [scan] at hl
  | c :: l, n + 1, hl => by
    unfold scan at hl ⊢
    split at hl
    · simp at hl
    · rename_i hb
      simp only [badC, Bool.or_eq_true, decide_eq_true_eq, not_or, S2_len] at hb
      have e := ext_len h
      rw [if_neg (by simp only [badC, Bool.or_eq_true, decide_eq_true_eq, not_or, S2_len]; omega), kids_ext h (by omega)]
      exact scan_ext h l _ hl
theorem term_mark {sig : List Sy} (h : plainE sig = 0) {u : List Int} (hu : isTerm (S2 sig) u) (h0 : 0 ≤ u.headD 0) : isTerm (S2 (extV sig)) (markT (sig.length : Int) u) := by
  obtain ⟨c, u', rfl⟩ := List.exists_cons_of_ne_nil (isTerm_ne hu)
  have h0 : 0 ≤ c := h0
  have hs := scan_sym hu h0
  rw [S2_len] at hs
  have e := ext_len h
  show scan _ 1 ((c + (sig.length : Int)) :: u') = 0
  unfold scan
  rw [if_neg (by simp only [badC, Bool.or_eq_true, decide_eq_true_eq, not_or, S2_len]; omega), kids_mark h h0 hs.1, Nat.zero_add]
  exact scan_ext h _ _ hs.2
/-- Both sides of a pair may stand in a pair. -/
theorem pairs_may {S : Sm} (hsg : chkSig (extV S.sig) = 0) : ∀ q ∈ pairsL S, mayB (extV S.sig) (S.sig.length : Int) q.1 = true ∧ mayB (extV S.sig) (S.sig.length : Int) q.2 = true := by
  intro q hq
  unfold pairsL at hq
  split at hq
  · rename_i h0
    split at hq
    · cases hq
    · unfold allP at hq
      obtain ⟨r, hr, hq⟩ := List.mem_flatMap.mp hq
      unfold rowP at hq
      obtain ⟨k, _, hk⟩ := List.mem_filterMap.mp hq
      have hk' := hk
      obtain ⟨hkl, u, w, hd, hu, rfl⟩ := gP_some h0 hr hk
      obtain ⟨g1, g2, g3, g4⟩ := right_ok (right_sys h0)
      obtain ⟨q1, q2, q3, q4, q5, _⟩ := ruleE_ok (g4 r hr)
      have hul : u.length ≤ r.2.length := by
        have h1 := congrArg List.length hd
        simp only [List.length_drop, List.length_append] at h1
        omega
      have hu0 : 0 ≤ u.headD 0 := by
        unfold gP at hk'
        rw [Option.bind_eq_some_iff] at hk'
        obtain ⟨c, hc, hk'⟩ := hk'
        split at hk'
        · rename_i hdm
          obtain ⟨x, u', rfl⟩ := List.exists_cons_of_ne_nil (isTerm_ne hu)
          have h2 : (r.2.drop k)[0]? = some x := by rw [hd]; rfl
          rw [List.getElem?_drop, Nat.add_zero, hc] at h2
          obtain rfl := Option.some.inj h2
          unfold defL at hdm
          split at hdm
          · have := (List.mem_filter.mp hdm).1
            obtain ⟨m, _, rfl⟩ := List.mem_map.mp this
            show (0 : Int) ≤ m
            omega
          · cases hdm
        · cases hk'
      have fit : ∀ {v : List Int}, isTerm (S2 S.sig) v → 0 ≤ v.headD 0 → v.length ≤ 512 → mayB (extV S.sig) (S.sig.length : Int) (markT (S.sig.length : Int) v) = true := fun {v} hv h0 hl => by
        unfold mayB
        rw [chk_of hsg (term_mark g1 hv h0)]
        have hne := List.length_pos_iff.mpr (isTerm_ne hv)
        have e1 : (markT (S.sig.length : Int) v).length = v.length := by unfold markT; simp; omega
        have e2 : (markT (S.sig.length : Int) v).headD 0 = v.headD 0 + S.sig.length := rfl
        rw [e1, e2, decide_eq_true hl, decide_eq_true (by omega)]; rfl
      exact ⟨fit q1 q5 q3, fit hu hu0 (by omega)⟩
  · cases hq
/-- What a pair's right side comes to by binds stands for it. -/
theorem inst_pair {S : Sm} {c : Int} {u : List Int} (hu : isTerm (S2 (extV S.sig)) (c :: u)) (h0 : 0 ≤ c) {τ : Int → List Int} (hτ : Sub (S2 (extV S.sig)) τ) : ∃ t, app τ (c :: u) = c :: t ∧ Inst (S2 (extV S.sig)) (defL S) u t :=
  ⟨_, app_pos (by omega), inst_app hτ _ u _ (Nat.le_refl _) (scan_sym hu h0).2⟩
end Go.Proofs.YtnlhnlmnlfmojaaGreatDoor.Am

namespace Go.Proofs.Sys
theorem nodup_le {α : Type} : ∀ {xs ys : List α}, xs.Nodup → (∀ x ∈ xs, x ∈ ys) → xs.length ≤ ys.length
  | [], ys, _, _ => by simp
  | x :: xs, ys, h, hm => by
    obtain ⟨a, b, rfl⟩ := List.append_of_mem (hm x (by simp))
    rw [List.nodup_cons] at h
    have := nodup_le (xs := xs) (ys := a ++ b) h.2 fun y hy => by
      have h1 := hm y (by simp [hy])
      have hne : y ≠ x := fun e => h.1 (e ▸ hy)
      simp only [List.mem_append, List.mem_cons] at h1 ⊢
      rcases h1 with h1 | h1 | h1
      · exact .inl h1
      · exact absurd h1 hne
      · exact .inr h1
    simp only [List.length_append, List.length_cons] at this ⊢
    omega
end Go.Proofs.Sys
namespace Go.Proofs.YtnlhnlmnlfmojaaGreatDoor.Am
open Go Go.Proofs Sys Go.Lib
set_option linter.unusedVariables false
set_option linter.unusedSimpArgs false
set_option maxRecDepth 100000
variable {D : Orc} {T : H → Prop}

/-- A bind: where its row lies, its variable, its row. -/
abbrev Bd1 := Value × Int × List Int
def bRow (xs : List Bd1) : List (List Value) := xs.map fun x => [.int .i64 x.2.1, x.1]
structure Bs (h : H) (s : Value) (xs : List Bd1) : Prop where
  row : RowK 2 h s (bRow xs)
  len : xs.length < 2 ^ 40
  each : ∀ x ∈ xs, Ir h x.1 x.2.2 ∧ inI x.2.1
theorem bRow_len (xs : List Bd1) : (bRow xs).length = xs.length := by simp [bRow]
theorem Bs.ext {h h' : H} {s : Value} {xs : List Bd1} (r : Bs h s xs) (e : Ext h h') : Bs h' s xs := ⟨r.row.ext e, r.len, fun x hx => ⟨(r.each x hx).1.ext e, (r.each x hx).2⟩⟩
theorem Bs.len_ {h : H} {s : Value} {xs : List Bd1} (r : Bs h s xs) {k : Nat → Prop} : lenW s k ↔ k xs.length := by rw [r.row.len, bRow_len]
theorem Bs.nil_ {h : H} : Bs h (.slice none 0 0) [] := ⟨RowK.nil_, by simp, by simp⟩
theorem Bs.at_ {h : H} {s : Value} {xs : List Bd1} (r : Bs h s xs) {n : Int} (h0 : 0 ≤ n) (h1 : n < xs.length) {k : Addr → Prop} (hk : ∀ ad x, xs[n.toNat]? = some x → inI x.2.1 → Ir h x.1 x.2.2 → rdN h ad 2 = some [.int .i64 x.2.1, x.1] → rd h (ad.add 0) = some (.int .i64 x.2.1) → rd h (ad.add 1) = some x.1 → k ad) : slAtW s n 2 k := by
  refine r.row.at_ h0 (by rw [bRow_len]; exact h1) fun ad v hv hrd hj => ?_
  unfold bRow at hv
  rw [List.getElem?_map, Option.map_eq_some_iff] at hv
  obtain ⟨x, hx, rfl⟩ := hv
  obtain ⟨a, b⟩ := r.each x (List.mem_of_getElem? hx)
  exact hk ad x hx b a hrd (hj 0 _ rfl) (hj 1 _ rfl)
/-- What binds say of a code. -/
def bV (xs : List Bd1) (c : Int) : List Int := match xs.find? (fun x => x.2.1 == -1 - c) with
  | some x => x.2.2
  | none => [c]
theorem bV_term {sig : Sg} {xs : List Bd1} (hx : ∀ x ∈ xs, isTerm sig x.2.2) {c : Int} (h0 : c < 0) (h1 : -1048576 ≤ c) : isTerm sig (bV xs c) := by
  unfold bV
  split
  · rename_i x h
    exact hx x (List.mem_of_find?_eq_some h)
  · unfold isTerm scan
    have hb : badC sig.length c = false := by simp [badC]; omega
    rw [hb, if_neg (by simp)]
    have : kids sig c = 0 := by unfold kids; rw [if_pos h0]
    rw [this]; rfl
/-- The same on a right row's codes, and terms for all codes. -/
def bW (xs : List Bd1) (c : Int) : List Int := if c < 0 ∧ -1048576 ≤ c then bV xs c else [-1]
theorem bW_sub {sig : Sg} {xs : List Bd1} (hx : ∀ x ∈ xs, isTerm sig x.2.2) : Sub sig (bW xs) := fun c => by
  unfold bW
  split
  · rename_i h; exact bV_term hx h.1 h.2
  · unfold isTerm scan badC
    simp [kids, scan]; omega
theorem bW_app {sig : Sg} {xs : List Bd1} {l : List Int} {n : Nat} (h : scan sig n l = 0) : app (bV xs) l = app (bW xs) l := app_cong fun c hc h0 => by
  have := scan_codes sig l n h c hc
  unfold bW
  rw [if_pos ⟨h0, this.1⟩]
theorem spec109 (c : Cl109 D) {a b : Value} {l m : List Int} {h : H} {k : Kv} {kp : Kp} (ra : Ir h a l) (rb : Ir h b m) (hk : k (.bool (decide (l = m))) h) : D 109 [a, b] h k kp := by
  refine c _ _ _ _ _ ?_
  unfold F109
  have hl := ra.len
  have hm := rb.len
  rw [ra.len_, rb.len_, cond_ne]
  refine ⟨fun hne => ?_, fun heq => ?_⟩
  · have : decide (l = m) = false := decide_eq_false fun h => hne (by rw [h])
    rw [this] at hk; exact hk
  have hlen : l.length = m.length := by omega
  intro I hI
  have key : ∀ (n i : Nat), l.length - i ≤ n → i ≤ l.length → decide (l.drop i = m.drop i) = decide (l = m) → I [a, b, .int .i64 ((i : Nat) : Int)] h := by
    intro n
    induction n with
    | zero =>
      intro i hn hi he
      refine hI _ _ _ _ ?_
      unfold round109_4
      rw [intK_int, ra.len_, cond_dec]
      refine ⟨fun hlt => by omega, fun _ => ?_⟩
      rw [List.drop_eq_nil_of_le (by omega), List.drop_eq_nil_of_le (by omega)] at he
      have : decide (l = m) = true := by rw [← he]; rfl
      rw [this] at hk; exact hk
    | succ n ih =>
      intro i hn hi he
      refine hI _ _ _ _ ?_
      unfold round109_4
      rw [intK_int, ra.len_, cond_dec]
      refine ⟨fun hlt => ?_, fun _ => ?_⟩
      · refine ra.at_ (by omega) (by omega) fun ad x hx _ hrd => ⟨x, hrd, ?_⟩
        refine rb.at_ (by omega) (by omega) fun ad2 y hy _ hrd2 => ⟨y, hrd2, ?_⟩
        rw [Int.toNat_natCast] at hx hy
        rw [(split_at hx).2.2, (split_at hy).2.2] at he
        rw [cond_ne]
        refine ⟨fun hne => ?_, fun heq => ?_⟩
        · have : decide (l = m) = false := by rw [← he]; exact decide_eq_false fun h => hne (List.cons.inj h).1
          rw [this] at hk; exact hk
        · subst heq
          rw [i64_id (by omega) (by omega)]
          refine ih (i + 1) (by omega) (by omega) ?_
          rw [← he, decide_eq_decide]
          constructor
          · intro h; rw [h]
          · intro h; exact (List.cons.inj h).2
      · rw [List.drop_eq_nil_of_le (by omega), List.drop_eq_nil_of_le (by omega)] at he
        have : decide (l = m) = true := by rw [← he]; rfl
        rw [this] at hk; exact hk
  exact key l.length 0 (by omega) (by omega) (by simp)

theorem spec66 (c : Cl66 D) : SpecEndT D 66 := by
  intro s t sig l i u r h k kp hs ha hl hd hu hk
  refine c _ _ _ _ _ _ ?_
  unfold F66
  rw [intK_int]
  have hlen := hl.len
  have hsl := hs.len
  have hne := List.length_pos_iff.mpr (isTerm_ne hu)
  have hil : i + u.length ≤ l.length := by
    have h1 := congrArg List.length hd
    simp only [List.length_drop, List.length_append] at h1
    omega
  intro I hI
  have key : ∀ (n p o : Nat) (w : List Int), w.length ≤ n → p + w.length = i + u.length → l.drop p = w ++ r → scan (S2 sig) o w = 0 → o ≤ 8 * p + 8 → I [s, t, .int .i64 ((p : Nat) : Int), .int .i64 ((o : Nat) : Int)] h := by
    intro n
    induction n with
    | zero =>
      intro p o w hw hp hdw hsc ho
      obtain rfl := List.length_eq_zero_iff.mp (Nat.le_zero.mp hw)
      have h0 : o = 0 := by
        cases o with
        | zero => rfl
        | succ o => simp [scan] at hsc
      subst h0
      refine hI _ _ _ _ _ ?_
      unfold round66_2
      rw [intK_int, intK_int, cond_dec]
      refine ⟨fun hlt => by omega, fun _ => ?_⟩
      dsimp only
      rw [xs_e]
      show cond true _ _
      rw [cond_true, nth0, intK_int]
      have : p = i + u.length := by simpa using hp
      rw [this]; exact hk
    | succ n ih =>
      intro p o w hw hp hdw hsc ho
      refine hI _ _ _ _ _ ?_
      unfold round66_2
      rw [intK_int, intK_int, cond_dec]
      refine ⟨fun hlt => ?_, fun hge => ?_⟩
      · cases o with
        | zero => exact absurd hlt (by decide)
        | succ o =>
        cases w with
        | nil => simp [scan] at hsc
        | cons d w =>
        have hx : l[p]? = some d := by
          have : (l.drop p)[0]? = some d := by rw [hdw]; rfl
          rw [List.getElem?_drop] at this; simpa using this
        have hpl := (List.getElem?_eq_some_iff.mp hx).1
        have hdw1 : l.drop (p + 1) = w ++ r := by rw [← List.drop_drop, hdw]; rfl
        simp only [List.length_cons] at hw hp
        unfold scan at hsc
        split at hsc
        · cases hsc
        rename_i hbad
        refine hl.at_ (by omega) (by omega) fun ad x hx' hxi hrd => ⟨x, hrd, ?_⟩
        rw [Int.toNat_natCast, hx] at hx'
        obtain rfl := Option.some.inj hx'
        rw [cond_dec, i64_id (n := ((o + 1 : Nat) : Int) - 1) (by omega) (by omega)]
        have e1 : ((o + 1 : Nat) : Int) - 1 = ((o : Nat) : Int) := by omega
        rw [e1]
        have step : ∀ {K : Kl} o', scan (S2 sig) o' w = 0 → o' ≤ o + 8 → j66_2_6 D I K s t (.int .i64 ((p : Nat) : Int)) (.int .i64 ((o' : Nat) : Int)) h := fun o' hs' ho' => by
          unfold j66_2_6
          rw [intK_int, intK_int, i64_id (by omega) (by omega)]
          exact ih (p + 1) o' w (by omega) (by omega) hdw1 hs' (by omega)
        refine ⟨fun hpos => ?_, fun hneg => ?_⟩
        · have hds : d < sig.length := by
            have hb : badC (S2 sig).length d = false := by simpa using hbad
            simp only [badC, Bool.or_eq_false_iff, decide_eq_false_iff_not, S2_len] at hb
            omega
          refine hl.at_ (by omega) (by omega) fun ad x hx' hxi hrd => ⟨x, hrd, ?_⟩
          rw [Int.toNat_natCast, hx] at hx'
          obtain rfl := Option.some.inj hx'
          refine hs.row.at_ (by omega) (by rw [sgRow_len]; exact hds) fun ad2 v hv _ hj => ?_
          obtain ⟨y, hy, rfl⟩ := sgRow_at hv
          refine ⟨y.2, hj 1 _ rfl, ?_⟩
          have hay := ha y (List.mem_of_getElem? hy)
          have hkid := kids_of (sig := sig) hpos hy
          rw [i64_id (by omega) (by omega)]
          have e2 : ((o : Nat) : Int) + y.2 = ((o + kids (S2 sig) d : Nat) : Int) := by omega
          rw [e2]
          exact step _ hsc (by omega)
        · have : kids (S2 sig) d = 0 := by unfold kids; rw [if_pos (by omega)]
          rw [this] at hsc
          exact step o hsc (by omega)
      · have h0 : o = 0 := by omega
        subst h0
        have : w = [] := by
          cases w with
          | nil => rfl
          | cons d w => simp [scan] at hsc
        subst this
        dsimp only
        rw [xs_e]
        show cond true _ _
        rw [cond_true, nth0, intK_int]
        have : p = i + u.length := by simpa using hp
        rw [this]; exact hk
  exact key u.length i 1 u (Nat.le_refl _) rfl hd hu (by omega)

/-! ### slices of rows, and rows put behind rows -/
theorem Ir.cut2 {h : H} {s : Value} {l : List Int} (r : Ir h s l) {lo hi : Option Int} {i j : Nat} (hi0 : lo.getD 0 = (i : Int)) (hj0 : hi.getD (l.length : Int) = (j : Int)) (hij : i ≤ j) (hj : j ≤ l.length) {k : Value → Prop}
    (hk : ∀ s', Ir h s' ((l.take j).drop i) → k s') : slCutW s lo hi none 1 k :=
  r.row.part hi0 (by rw [Z_len]; exact hj0) hij (by rw [Z_len]; exact hj) fun s' r' _ => hk s' ⟨by simpa [Z, List.map_take, List.map_drop] using r', by
    have := r.len
    simp only [List.length_drop, List.length_take]; omega, fun x hx => r.rng x (List.mem_of_mem_take (List.mem_of_mem_drop hx))⟩
theorem part_eq {l u r : List Int} {i : Nat} (h : l.drop i = u ++ r) : (l.take (i + u.length)).drop i = u := by
  rw [List.drop_take, h, Nat.add_sub_cancel_left, List.take_left]
theorem Hp.cat {h0 h : H} {L : List Res} {i : Nat} {s t : Value} {vs : List Value} {l : List Int} (o : Hp h0 h L) (hi : L[i]? = some (bufR s vs)) (r : Ir h t l) {bytes : Nat} {z : Value} (hb : bytes ≤ 64) (hl : vs.length + l.length ≤ 2 ^ 40) {K : Value → H → Prop}
    (hK : ∀ s' h', Hp h0 h' (L.set i (bufR s' (vs ++ Z l))) → K s' h') : slenW t fun n => srcW h 1 t n fun w => apW h 1 bytes [z] s n w fun s' h' => K s' h' := by
  rw [r.row.slen]
  refine r.row.src (Nat.le_refl _) ?_
  rw [List.take_length]
  exact o.app hi Z_one hb (by rw [Z_len]; exact hl) hK
theorem Z_cat {a b : List Int} : Z a ++ Z b = Z (a ++ b) := by simp [Z]
/-! ### a variable's bind -/
def SpecBound (D : Orc) (f : Nat) : Prop := ∀ s (xs : List Bd1) (v : Int) h (k : Kv) kp, Bs h s xs → (∀ x, xs.find? (fun x => x.2.1 == v) = some x → k (.tuple #[x.1, .bool true]) h) → (xs.find? (fun x => x.2.1 == v) = none → k (.tuple #[.slice none 0 0, .bool false]) h) → D f [s, .int .i64 v] h k kp
theorem bfind_at {α : Type} {p : α → Bool} {xs : List α} {i : Nat} {x : α} (hn : (xs.take i).find? p = none) (hx : xs[i]? = some x) : (p x = true → xs.find? p = some x) ∧ (p x = false → (xs.take (i + 1)).find? p = none) := by
  obtain ⟨h1, h2, _⟩ := split_at hx
  refine ⟨fun hp => ?_, fun hp => ?_⟩
  · rw [h1, List.find?_append, hn, List.find?_cons, hp]; rfl
  · rw [h2, List.find?_append, hn, List.find?_cons, hp]; rfl
theorem spec63 (c : Cl63 D) : SpecBound D 63 := by
  intro s xs v h k kp r hs hn
  refine c _ _ _ _ _ ?_
  unfold F63
  rw [intK_int]
  have hlen := r.len
  intro I hI
  have key := down_ind (P := fun i => (xs.take i).find? (fun x => x.2.1 == v) = none → I [s, .int .i64 v, .int .i64 ((i : Nat) : Int)] h) xs.length fun i hi ih hno => by
    refine hI _ _ _ _ ?_
    unfold round63_2
    rw [intK_int, intK_int, r.len_, cond_dec]
    refine ⟨fun hlt => ?_, fun hge => ?_⟩
    · refine r.at_ (by omega) (by omega) fun ad x hx hxi _ _ h0 _ => ⟨x.2.1, h0, ?_⟩
      rw [Int.toNat_natCast] at hx
      obtain ⟨f1, f2⟩ := bfind_at hno hx
      rw [cond_eq]
      refine ⟨fun he => ?_, fun hne => ?_⟩
      · refine r.at_ (by omega) (by omega) fun ad y hy _ _ _ _ h1 => ⟨y.1, h1, ?_⟩
        rw [Int.toNat_natCast, hx] at hy
        obtain rfl := Option.some.inj hy
        rw [xs_r, nth0, nth1, boolW_bool]
        exact hs x (f1 (by simpa using he))
      · rw [i64_id (by omega) (by omega)]
        exact ih (by omega) (f2 (by simpa using hne))
    · dsimp only
      rw [xs_e]
      show cond true _ _
      rw [cond_true]
      rw [List.take_of_length_le (by omega)] at hno
      exact hn hno
  exact key 0 (by omega) rfl
def SpecBoundI (D : Orc) (f : Nat) : Prop := ∀ s (xs : List Bd1) (v : Int) h (k : Kv) kp, Bs h s xs → (∀ (i : Nat) x, xs[i]? = some x → x.2.1 = v → k (.int .i64 ((i : Nat) : Int)) h) → ((∀ x ∈ xs, x.2.1 ≠ v) → k (.int .i64 (-1)) h) → D f [s, .int .i64 v] h k kp
theorem spec108 (c : Cl108 D) : SpecBoundI D 108 := by
  intro s xs v h k kp r hs hn
  refine c _ _ _ _ _ ?_
  unfold F108
  rw [intK_int]
  have hlen := r.len
  intro I hI
  have key := down_ind (P := fun i => (∀ x ∈ xs.take i, x.2.1 ≠ v) → I [s, .int .i64 v, .int .i64 ((i : Nat) : Int)] h) xs.length fun i hi ih hno => by
    refine hI _ _ _ _ ?_
    unfold round108_2
    rw [intK_int, intK_int, r.len_, cond_dec]
    refine ⟨fun hlt => ?_, fun hge => ?_⟩
    · refine r.at_ (by omega) (by omega) fun ad x hx hxi _ _ h0 _ => ⟨x.2.1, h0, ?_⟩
      rw [Int.toNat_natCast] at hx
      rw [cond_eq]
      refine ⟨fun he => ?_, fun hne => ?_⟩
      · dsimp only
        rw [xs_r, nth0, intK_int]
        exact hs i x hx he
      · rw [i64_id (by omega) (by omega)]
        refine ih (by omega) fun y hy => ?_
        rw [(split_at hx).2.1, List.mem_append, List.mem_singleton] at hy
        rcases hy with hy | rfl
        · exact hno y hy
        · exact hne
    · dsimp only
      rw [xs_e]
      show cond true _ _
      rw [cond_true]
      rw [List.take_of_length_le (by omega)] at hno
      exact hn hno
  exact key 0 (by omega) fun x hx => by simp at hx
/-! ### what binds make of a row -/
def SpecLaid4 (D : Orc) (f : Nat) : Prop := ∀ s t (xs : List Bd1) (l : List Int) (m : Nat) h (k : Kv) kp, Bs h s xs → Ir h t l → m ≤ 512 → (∀ h', Ext h h' → k (.tuple #[.slice none 0 0, .bool false]) h') → (∀ v h', Ext h h' → Buf h h' v (Z (app (bV xs) l)) → (app (bV xs) l).length ≤ m → k (.tuple #[v, .bool true]) h') → D f [s, t, .int .i64 ((m : Nat) : Int)] h k kp
theorem spec37 (c : Cl37 D) (sB : SpecBound D 63) : SpecLaid4 D 37 := by
  intro s t xs l m h k kp r ir hm hbad hok
  refine c _ _ _ _ _ _ ?_
  unfold F37
  rw [intK_int]
  have hlen := ir.len
  refine (Hp.nil_ h).newSl0 fun s1 h1 o1 => ?_
  intro I hI
  have key := down_ind (P := fun i => ∀ (ov : Value) (h' : H), Hp h h' [bufR ov (Z (app (bV xs) (l.take i)))] → (app (bV xs) (l.take i)).length ≤ m → I [s, t, .int .i64 ((m : Nat) : Int), ov, .int .i64 ((i : Nat) : Int)] h') l.length fun i hi ih ov h' o hlm => by
    refine hI _ _ _ _ _ _ ?_
    unfold round37_3
    rw [intK_int, intK_int, (ir.ext o.ext).len_, cond_dec]
    refine ⟨fun hlt => ?_, fun hge => ?_⟩
    · have hi1 : i < l.length := by omega
      have go : ∀ {K : Kl} (pv : Value) (pl : List Int), Ir h' pv pl → app (bV xs) (l.take (i + 1)) = app (bV xs) (l.take i) ++ pl → (∀ h', Ext h h' → K .r [.slice none 0 0, .bool false] h') → j37_3_10 D I K s t (.int .i64 ((m : Nat) : Int)) ov (.int .i64 ((i : Nat) : Int)) pv h' := fun pv pl ip he hK => by
        unfold j37_3_10
        have hpl := ip.len
        rw [intK_int, intK_int, ip.len_, (o.row (i := 0) rfl).len, Z_len, i64_id (by omega) (by omega), cond_dec]
        refine ⟨fun hgt => hK h' o.ext, fun hle => ?_⟩
        refine o.cat (i := 0) rfl ip (by decide) (by rw [Z_len]; omega) fun s2 h2 o2 => ?_
        rw [i64_id (by omega) (by omega)]
        refine ih hi1 s2 h2 ?_ (by rw [he, List.length_append]; omega)
        rw [he, ← Z_cat]; exact o2
      refine (ir.ext o.ext).cut2 (i := i) (j := i + 1) rfl (by rw [i64_id (by omega) (by omega)]; simp) (by omega) (by omega) fun pv ip => ?_
      refine (ir.ext o.ext).at_ (by omega) (by omega) fun ad x hx hxi hrd => ⟨x, hrd, ?_⟩
      rw [Int.toNat_natCast] at hx
      have htk := (split_at hx).2.1
      have hp1 : (l.take (i + 1)).drop i = [x] := by
        rw [htk, List.drop_append_of_le_length (by simp; omega), List.drop_of_length_le (by simp; omega)]; rfl
      rw [hp1] at ip
      rw [cond_dec]
      refine ⟨fun hneg => ?_, fun hpos => ?_⟩
      · refine (ir.ext o.ext).at_ (by omega) (by omega) fun ad y hy _ hrd => ⟨y, hrd, ?_⟩
        rw [Int.toNat_natCast, hx] at hy
        obtain rfl := Option.some.inj hy
        have hxi' : -9223372036854775808 ≤ x := hxi.1
        rw [i64_id (by omega) (by omega)]
        refine sB _ _ _ _ _ _ (r.ext o.ext) (fun y hy => ⟨_, _, rfl, ?_⟩) fun hno => ⟨_, _, rfl, ?_⟩
        · rw [cond_true]
          obtain ⟨iy, _⟩ := r.each y (List.mem_of_find?_eq_some hy)
          refine go _ _ (iy.ext o.ext) ?_ fun h2 e2 => ?_
          · rw [htk, app_append, app_neg hneg, app_nil, List.append_nil]
            unfold bV
            rw [hy]
          · rw [xs_r, nth0, nth1, boolW_bool]
            exact hbad h2 e2
        · rw [cond_false]
          refine go _ _ ip ?_ fun h2 e2 => ?_
          · rw [htk, app_append, app_neg hneg, app_nil, List.append_nil]
            unfold bV
            rw [hno]
          · rw [xs_r, nth0, nth1, boolW_bool]
            exact hbad h2 e2
      · refine go _ _ ip ?_ fun h2 e2 => ?_
        · rw [htk, app_append, app_pos hpos, app_nil]
        · rw [xs_r, nth0, nth1, boolW_bool]
          exact hbad h2 e2
    · dsimp only
      rw [xs_e]
      show cond true _ _
      rw [cond_true, nth0]
      rw [List.take_of_length_le (by omega)] at o hlm
      exact hok ov h' o.ext ((o.buf (i := 0) rfl).of_new fun q hq => (o.new _ (List.mem_cons_self ..) q hq).1) hlm
  exact key 0 (by omega) s1 h1 o1 (by simp [app])
end Go.Proofs.YtnlhnlmnlfmojaaGreatDoor.Am

namespace Go.Proofs.YtnlhnlmnlfmojaaGreatDoor.Am
open Go Go.Proofs Sys Go.Lib
set_option linter.unusedVariables false
set_option linter.unusedSimpArgs false
set_option maxRecDepth 100000
variable {D : Orc} {T : H → Prop}

theorem var_inj {xs : List Bd1} (hnd : (xs.map fun x => x.2.1).Nodup) : ∀ x ∈ xs, ∀ y ∈ xs, x.2.1 = y.2.1 → x = y := by
  induction xs with
  | nil => intro x hx; cases hx
  | cons z xs ih =>
    rw [List.map_cons, List.nodup_cons] at hnd
    intro x hx y hy e
    rcases List.mem_cons.mp hx with h1 | h1
    · rcases List.mem_cons.mp hy with h2 | h2
      · rw [h1, h2]
      · exact absurd (by rw [← h1, e]; exact List.mem_map_of_mem (f := fun x : Bd1 => x.2.1) h2) hnd.1
    · rcases List.mem_cons.mp hy with h2 | h2
      · exact absurd (by rw [← h2, ← e]; exact List.mem_map_of_mem (f := fun x : Bd1 => x.2.1) h1) hnd.1
      · exact ih hnd.2 x h1 y h2 e
theorem nodup_of_vars {xs : List Bd1} (hnd : (xs.map fun x => x.2.1).Nodup) : xs.Nodup :=
  (List.pairwise_map.mp hnd).imp fun h e => h (by rw [e])
/-- A variable behind all that is put out. -/
def Lat (ys : List Bd1) (x : Bd1) : Prop := ∀ l, ys.getLast? = some l → l.2.1 < x.2.1
structure Clo (xs ys : List Bd1) : Prop where
  mem : ∀ y ∈ ys, y ∈ xs
  low : ∀ x ∈ xs, ¬ Lat ys x → x ∈ ys
def Pick (xs ys : List Bd1) (i : Nat) (m : Int) : Prop := (m = -1 ∧ ∀ (j : Nat) x, j < i → xs[j]? = some x → ¬ Lat ys x) ∨ (∃ (n : Nat) (x : Bd1), m = (n : Int) ∧ xs[n]? = some x ∧ Lat ys x ∧ ∀ (j : Nat) y, j < i → xs[j]? = some y → Lat ys y → x.2.1 ≤ y.2.1)
theorem Clo.more {xs ys : List Bd1} (hc : Clo xs ys) (hnd : (xs.map fun x => x.2.1).Nodup) {n : Nat} {x : Bd1} (hx : xs[n]? = some x) (hl : Lat ys x) (hmin : ∀ (j : Nat) y, j < xs.length → xs[j]? = some y → Lat ys y → x.2.1 ≤ y.2.1) : Clo xs (ys ++ [x]) := by
  have hxm := List.mem_of_getElem? hx
  refine ⟨fun y hy => ?_, fun y hy hn => ?_⟩
  · rcases List.mem_append.mp hy with hy | hy
    · exact hc.mem y hy
    · obtain rfl : y = x := by simpa using hy
      exact hxm
  · by_cases h1 : Lat ys y
    · have hle : y.2.1 ≤ x.2.1 := by
        refine Classical.not_not.mp fun hgt => hn fun l hl => ?_
        have : x = l := by simpa using hl
        subst this; omega
      obtain ⟨j, hj⟩ := List.getElem?_of_mem hy
      have := hmin j y (List.getElem?_eq_some_iff.mp hj).1 hj h1
      have := var_inj hnd y hy x hxm (by omega)
      simp [this]
    · exact List.mem_append_left _ (hc.low y hy h1)
def SpecSortB (D : Orc) (f : Nat) : Prop := ∀ s (xs : List Bd1) h (k : Kv) kp, Bs h s xs → (xs.map fun x => x.2.1).Nodup → (∀ v ys h', Ext h h' → Bs h' v ys → (∀ y ∈ ys, y ∈ xs) → k v h') → D f [s] h k kp
theorem bd_one {h : H} {s : Value} {xs : List Bd1} (r : Bs h s xs) {x : Bd1} (hx : x ∈ xs) : ([.int .i64 x.2.1, x.1] : List Value).all one = true := by
  have := sl_one' (r.each x hx).1.row
  show (one _ && (one _ && true)) = true
  rw [this]; rfl
theorem spec110 (c : Cl110 D) : SpecSortB D 110 := by
  intro s xs h k kp r hnd hk
  refine c _ _ _ _ ?_
  unfold F110
  have hlen := r.len
  have hxn := nodup_of_vars hnd
  intro I hI
  have key := down_ind (P := fun j => ∀ (ys : List Bd1) (ov : Value) (h' : H), ys.length = j → Hp h h' [bufK 2 ov (bRow ys)] → Clo xs ys → I [s, ov] h') xs.length fun j hj ih ys ov h' hyl o hc => by
    refine hI _ _ _ ?_
    unfold round110_2
    have ry := o.rowK (i := 0) rfl
    rw [ry.len, bRow_len, (r.ext o.ext).len_, cond_dec]
    refine ⟨fun hlt => ?_, fun hge => ?_⟩
    · intro I2 hI2
      have key2 := down_ind (P := fun i => ∀ m : Int, Pick xs ys i m → I2 [s, ov, .int .i64 m, .int .i64 ((i : Nat) : Int)] h') xs.length fun i hi ih2 m hm => by
        refine hI2 _ _ _ _ _ ?_
        unfold round110_5
        rw [intK_int, intK_int, (r.ext o.ext).len_, cond_dec]
        refine ⟨fun hlt2 => ?_, fun hge2 => ?_⟩
        · have hi1 : i < xs.length := by omega
          obtain ⟨x, hx⟩ : ∃ x, xs[i]? = some x := ⟨_, List.getElem?_eq_getElem hi1⟩
          have pick : ∀ {K : Kl} (b : Bool), (b = true → Pick xs ys (i + 1) (i : Int)) → (b = false → Pick xs ys (i + 1) m) → j110_5_9 D I2 K s ov (.int .i64 m) (.int .i64 ((i : Nat) : Int)) (.bool b) h' := fun b ht hf => by
            unfold j110_5_9
            rw [intK_int, intK_int, boolW_bool]
            cases b with
            | true =>
              rw [cond_true]
              unfold j110_5_6
              rw [intK_int, intK_int, i64_id (by omega) (by omega)]
              exact ih2 hi1 _ (ht rfl)
            | false =>
              rw [cond_false]
              unfold j110_5_6
              rw [intK_int, intK_int, i64_id (by omega) (by omega)]
              exact ih2 hi1 _ (hf rfl)
          have later : ∀ {K : Kl} (b : Bool), (b = true ↔ Lat ys x) → j110_5_8 D I2 K s ov (.int .i64 m) (.int .i64 ((i : Nat) : Int)) (.bool b) h' := fun b hb => by
            unfold j110_5_8
            rw [intK_int, intK_int, boolW_bool]
            cases b with
            | false =>
              rw [cond_false]
              have hnl : ¬ Lat ys x := fun h => by cases hb.mpr h
              refine pick false (fun h => by cases h) fun _ => ?_
              rcases hm with ⟨rfl, h1⟩ | ⟨n, y, rfl, h1, h2, h3⟩
              · refine .inl ⟨rfl, fun j z hjz hz => ?_⟩
                by_cases hji : j = i
                · subst hji
                  rw [hx] at hz
                  obtain rfl := Option.some.inj hz
                  exact hnl
                · exact h1 j z (by omega) hz
              · refine .inr ⟨n, y, rfl, h1, h2, fun j z hjz hz hzl => ?_⟩
                by_cases hji : j = i
                · subst hji
                  rw [hx] at hz
                  obtain rfl := Option.some.inj hz
                  exact absurd hzl hnl
                · exact h3 j z (by omega) hz hzl
            | true =>
              rw [cond_true]
              have hxl : Lat ys x := hb.mp rfl
              rcases hm with ⟨rfl, h1⟩ | ⟨n, y, rfl, h1, h2, h3⟩
              · rw [decide_eq_true (by decide), Bool.not_true, cond_false]
                refine pick true (fun _ => .inr ⟨i, x, rfl, hx, hxl, fun j z hjz hz hzl => ?_⟩) (fun h => by cases h)
                by_cases hji : j = i
                · subst hji
                  rw [hx] at hz
                  obtain rfl := Option.some.inj hz
                  exact Int.le_refl _
                · exact absurd hzl (h1 j z (by omega) hz)
              · have hn1 := (List.getElem?_eq_some_iff.mp h1).1
                rw [decide_eq_false (by omega), Bool.not_false, cond_true]
                refine (r.ext o.ext).at_ (by omega) (by omega) fun ad z hz _ _ _ z0 _ => ⟨z.2.1, z0, ?_⟩
                rw [Int.toNat_natCast, hx] at hz
                obtain rfl := Option.some.inj hz
                refine (r.ext o.ext).at_ (by omega) (by omega) fun ad z hz _ _ _ z0 _ => ⟨z.2.1, z0, ?_⟩
                rw [Int.toNat_natCast, h1] at hz
                obtain rfl := Option.some.inj hz
                refine pick _ (fun hb => ?_) fun hb => ?_
                · have hb := of_decide_eq_true hb
                  refine .inr ⟨i, x, rfl, hx, hxl, fun j z hjz hz hzl => ?_⟩
                  by_cases hji : j = i
                  · subst hji
                    rw [hx] at hz
                    obtain rfl := Option.some.inj hz
                    exact Int.le_refl _
                  · have := h3 j z (by omega) hz hzl
                    omega
                · have hb := of_decide_eq_false hb
                  refine .inr ⟨n, y, rfl, h1, h2, fun j z hjz hz hzl => ?_⟩
                  by_cases hji : j = i
                  · subst hji
                    rw [hx] at hz
                    obtain rfl := Option.some.inj hz
                    omega
                  · exact h3 j z (by omega) hz hzl
          rw [ry.len, bRow_len]
          by_cases hy0 : ys.length = 0
          · rw [hy0]
            obtain rfl := List.length_eq_zero_iff.mp hy0
            show cond (!true) _ _
            rw [Bool.not_true, cond_false]
            exact later true ⟨fun _ l hl => by simp at hl, fun _ => rfl⟩
          · have : (((ys.length : Nat) : Int) == 0) = false := by simpa using hy0
            rw [this, Bool.not_false, cond_true]
            refine (r.ext o.ext).at_ (by omega) (by omega) fun ad z hz _ _ _ z0 _ => ⟨z.2.1, z0, ?_⟩
            rw [Int.toNat_natCast, hx] at hz
            obtain rfl := Option.some.inj hz
            rw [ry.len, bRow_len, i64_id (by omega) (by omega)]
            refine ry.at_ (by omega) (by rw [bRow_len]; omega) fun ad v hv hrd hjx => ?_
            have e1 : (((ys.length : Nat) : Int) - 1).toNat = ys.length - 1 := by omega
            rw [e1] at hv
            unfold bRow at hv
            rw [List.getElem?_map, Option.map_eq_some_iff] at hv
            obtain ⟨l, hl, rfl⟩ := hv
            refine ⟨l.2.1, hjx 0 _ rfl, ?_⟩
            rw [← List.getLast?_eq_getElem?] at hl
            refine later _ ⟨fun hb l' hl' => ?_, fun hb => decide_eq_true (hb l hl)⟩
            rw [hl] at hl'
            obtain rfl := Option.some.inj hl'
            exact of_decide_eq_true hb
        · dsimp only
          rw [xs_e]
          show cond true _ _
          rw [cond_true, nth0, nth1, nth2, intK_int]
          obtain rfl : i = xs.length := by omega
          rcases hm with ⟨rfl, h1⟩ | ⟨n, y, rfl, h1, h2, h3⟩
          · exfalso
            have := nodup_le hxn (ys := ys) fun x hx => by
              obtain ⟨j, hj⟩ := List.getElem?_of_mem hx
              exact hc.low x hx (h1 j x (List.getElem?_eq_some_iff.mp hj).1 hj)
            omega
          · have hn1 := (List.getElem?_eq_some_iff.mp h1).1
            refine (r.ext o.ext).at_ (by omega) (by omega) fun ad z hz _ _ hrd _ _ => ⟨z.2.1, z.1, hrd, rfl, by decide, ?_⟩
            rw [Int.toNat_natCast, h1] at hz
            obtain rfl := Option.some.inj hz
            refine o.pushK (i := 0) rfl rfl rfl (by decide) (by rw [bRow_len]; omega) (bd_one r (List.mem_of_getElem? h1)) fun s' h2' o2 => ?_
            refine ih (by omega) (ys ++ [y]) s' h2' (by simp [hyl]) ?_ (hc.more hnd h1 h2 h3)
            have e : bRow ys ++ [[.int .i64 y.2.1, y.1]] = bRow (ys ++ [y]) := by simp [bRow]
            rw [e] at o2
            exact o2
      exact key2 0 (by omega) (-1) (.inl ⟨rfl, fun j x hj => by omega⟩)
    · dsimp only
      rw [xs_e]
      show cond true _ _
      rw [cond_true, nth0]
      refine hk ov ys h' o.ext ⟨ry, by omega, fun y hy => ?_⟩ hc.mem
      have := (r.ext o.ext).each y (hc.mem y hy)
      exact this
  exact key 0 (by omega) [] _ h rfl ((Hp.nil_ h).add_nilK) ⟨fun y hy => (by cases hy), fun x hx hn => absurd (fun l hl => by simp at hl) hn⟩
/-! ### matching -/
def SpecInner (D : Orc) (f : Nat) : Prop := ∀ gv pv tv (sg : List Sy) (p t : List Int) h (k : Kv) kp, Sr h gv sg → ArOk sg → Ir h pv p → Ir h tv t → isTerm (S2 sg) p → isTerm (S2 sg) t → (∀ h', Ext h h' → k (.tuple #[.slice none 0 0, .bool false]) h') →
  (∀ v xs h', Ext h h' → Bs h' v xs → (∀ x ∈ xs, isTerm (S2 sg) x.2.2) → (0 ≤ p.headD 0 → t.headD 0 = p.headD 0) → k (.tuple #[v, .bool true]) h') → D f [gv, pv, tv] h k kp
theorem scan_next {sig : Sg} {m : Nat} {c : Int} {l : List Int} (h : scan sig m (c :: l) = 0) : ∃ m', m = m' + 1 ∧ scan sig (m' + kids sig c) l = 0 := by
  cases m with
  | zero => simp [scan] at h
  | succ m =>
    unfold scan at h
    split at h
    · simp at h
    · exact ⟨m, rfl, h⟩
theorem first_term {sig : Sg} {m : Nat} {l : List Int} (h : scan sig (m + 1) l = 0) : ∃ u r, l = u ++ r ∧ isTerm sig u ∧ scan sig m r = 0 := by
  obtain ⟨us, h1, h2, h3⟩ := split_terms _ _ h
  cases us with
  | nil => simp at h1
  | cons u us =>
    rw [List.flatten_cons] at h3
    have h1 : us.length = m := by simpa using h1
    exact ⟨u, us.flatten, h3.symm, h2 u (by simp), by rw [← h1]; exact scan_flat sig us fun v hv => h2 v (by simp [hv])⟩
theorem spec90 (c : Cl90 D) (cS : Cl109 D) (sB : SpecBoundI D 108) (sE : SpecEndT D 33) (sO : SpecSortB D 110) : SpecInner D 90 := by
  intro gv pv tv sg p t h k kp hg ha ip it hp ht hbad hok
  refine c _ _ _ _ _ _ ?_
  unfold F90
  have hpl := ip.len
  have htl := it.len
  intro I hI
  have key := down_ind (P := fun i => ∀ (lv : Value) (xs : List Bd1) (g : H) (at_ m : Nat) (h' : H), Hp h h' [bufK 2 lv (bRow xs), frzR g] → (∀ x ∈ xs, Ir g x.1 x.2.2 ∧ inI x.2.1 ∧ isTerm (S2 sg) x.2.2) → (xs.map fun x => x.2.1).Nodup → xs.length ≤ i → scan (S2 sg) m (p.drop i) = 0 → scan (S2 sg) m (t.drop at_) = 0 →
      at_ ≤ t.length → (i = 0 → at_ = 0) → (0 < i → 0 ≤ p.headD 0 → t.headD 0 = p.headD 0) → I [gv, pv, tv, lv, .int .i64 ((at_ : Nat) : Int), .int .i64 ((i : Nat) : Int)] h') p.length
    fun i hi ih lv xs g at_ m h' o hx hnd hxl hsp hst hat h00 hhd => by
    refine hI _ _ _ _ _ _ _ ?_
    unfold round90_4
    rw [intK_int, intK_int, (ip.ext o.ext).len_, cond_dec]
    have bs : ∀ {h2 : H}, Hp h h2 [bufK 2 lv (bRow xs), frzR g] → Bs h2 lv xs := fun o => ⟨o.rowK (i := 0) rfl, by omega, fun x hxm => ⟨(hx x hxm).1.ext (o.get (i := 1) rfl), (hx x hxm).2.1⟩⟩
    refine ⟨fun hlt => ?_, fun hge => ?_⟩
    · have hi1 : i < p.length := by omega
      obtain ⟨d, hd⟩ : ∃ d, p[i]? = some d := ⟨_, List.getElem?_eq_getElem hi1⟩
      have hdr := (split_at hd).2.2
      rw [hdr] at hsp
      obtain ⟨m', rfl, hsp'⟩ := scan_next hsp
      obtain ⟨u, r, hur, hu, hr⟩ := first_term hst
      have hul := congrArg List.length hur
      have hun := List.length_pos_iff.mpr (isTerm_ne hu)
      simp only [List.length_drop, List.length_append] at hul
      refine (ip.ext o.ext).at_ (by omega) (by omega) fun ad x hx1 hxi hrd => ⟨x, hrd, ?_⟩
      rw [Int.toNat_natCast, hd] at hx1
      obtain rfl := Option.some.inj hx1
      have hd0 : i = 0 → p.headD 0 = d := fun h0 => by
        subst h0
        cases p with
        | nil => simp at hi1
        | cons a p => simpa using hd
      rw [cond_dec]
      refine ⟨fun hpos => ?_, fun hneg => ?_⟩
      · refine (it.ext o.ext).at_ (by omega) (by omega) fun ad y hy _ hrd => ⟨y, hrd, ?_⟩
        rw [Int.toNat_natCast] at hy
        refine (ip.ext o.ext).at_ (by omega) (by omega) fun ad x hx1 hxi hrd => ⟨x, hrd, ?_⟩
        rw [Int.toNat_natCast, hd] at hx1
        obtain rfl := Option.some.inj hx1
        rw [cond_ne]
        refine ⟨fun hne => ?_, fun he => ?_⟩
        · dsimp only
          rw [xs_r, nth0, nth1, boolW_bool]
          exact hbad h' o.ext
        · subst he
          have htd := (split_at hy).2.2
          rw [htd] at hst
          obtain ⟨m2, hm2, hst'⟩ := scan_next hst
          obtain rfl : m2 = m' := by omega
          unfold j90_4_5
          rw [intK_int, intK_int, i64_id (by omega) (by omega), i64_id (by omega) (by omega)]
          refine ih hi1 lv xs g (at_ + 1) _ h' o hx hnd (by omega) hsp' hst' (by omega) (by omega) fun _ h0 => ?_
          by_cases hi0 : i = 0
          · have h1 := hd0 hi0
            have h2 := h00 hi0
            subst h2
            rw [h1]
            cases t with
            | nil => simp at hy
            | cons a t => simpa using hy
          · exact hhd (by omega) h0
      · refine sE _ _ sg t at_ u r _ _ _ (hg.ext o.ext) ha (it.ext o.ext) hur hu ⟨_, rfl, ?_⟩
        refine o.newSl0 fun s2 h2 o2 => ?_
        refine (it.ext o2.ext).cut2 (i := at_) (j := at_ + u.length) rfl rfl (by omega) (by omega) fun cv ic => ?_
        rw [part_eq hur] at ic
        refine o2.cat (i := 0) rfl ic (by decide) (by simp; omega) fun s3 h3 o3 => ?_
        have o3 : Hp h h3 [bufR s3 (Z u), bufK 2 lv (bRow xs), frzR g] := o3
        have iu : Ir h3 s3 u := ⟨o3.row (i := 0) rfl, ic.len, ic.rng⟩
        have o3' : Hp h h3 [bufK 2 lv (bRow xs), frzR g] := o3.tail
        refine (ip.ext o3.ext).at_ (by omega) (by omega) fun ad x hx1 hxi hrd => ⟨x, hrd, ?_⟩
        rw [Int.toNat_natCast, hd] at hx1
        obtain rfl := Option.some.inj hx1
        have hrng := hxi
        unfold inI at hrng
        have hsc := scan_codes _ p 1 hp d (List.mem_of_getElem? hd)
        rw [i64_id (by omega) (by omega)]
        have hk0 : kids (S2 sg) d = 0 := kids_neg (by omega)
        rw [hk0, Nat.add_zero] at hsp'
        have htd : t.drop (at_ + u.length) = r := by rw [← List.drop_drop, hur, List.drop_left]
        have next : ∀ {K : Kl} (lv2 : Value) (xs2 : List Bd1) (g2 h4 : H), Hp h h4 [bufK 2 lv2 (bRow xs2), frzR g2] → (∀ x ∈ xs2, Ir g2 x.1 x.2.2 ∧ inI x.2.1 ∧ isTerm (S2 sg) x.2.2) → (xs2.map fun x => x.2.1).Nodup → xs2.length ≤ i + 1 →
            j90_4_17 D I K gv pv tv lv2 (.int .i64 ((i : Nat) : Int)) (.int .i64 ((at_ + u.length : Nat) : Int)) h4 := fun lv2 xs2 g2 h4 o4 hx2 hnd2 hl2 => by
          unfold j90_4_17
          rw [intK_int, intK_int]
          unfold j90_4_5
          rw [intK_int, intK_int, i64_id (by omega) (by omega)]
          refine ih hi1 lv2 xs2 g2 (at_ + u.length) m' h4 o4 hx2 hnd2 hl2 hsp' (by rw [htd]; exact hr) (by omega) (by omega) fun _ h0 => ?_
          by_cases hi0 : i = 0
          · have := hd0 hi0
            omega
          · exact hhd (by omega) h0
        refine sB _ _ _ _ _ _ (bs o3') (fun j x hxj hxv => ⟨_, rfl, ?_⟩) fun hno => ⟨_, rfl, ?_⟩
        · have hj1 := (List.getElem?_eq_some_iff.mp hxj).1
          rw [decide_eq_false (by omega), cond_false]
          refine (bs o3').at_ (by omega) (by omega) fun ad z hz _ iz _ _ z1 => ⟨z.1, z1, ?_⟩
          rw [Int.toNat_natCast, hxj] at hz
          obtain rfl := Option.some.inj hz
          refine spec109 cS iz iu ⟨_, rfl, ?_⟩
          rw [cond_not, cond_dec]
          refine ⟨fun _ => next lv xs g h3 o3' hx hnd (by omega), fun _ => ?_⟩
          dsimp only
          rw [xs_r, nth0, nth1, boolW_bool]
          exact hbad h3 o3.ext
        · rw [decide_eq_true (by decide), cond_true]
          refine (ip.ext o3.ext).at_ (by omega) (by omega) fun ad x hx1 hxi hrd => ⟨x, hrd, ?_⟩
          rw [Int.toNat_natCast, hd] at hx1
          obtain rfl := Option.some.inj hx1
          rw [i64_id (by omega) (by omega)]
          have h1 := sl_one' iu.row
          refine ⟨rfl, by decide, h1, by decide, rfl, by decide, ?_⟩
          refine o3.pushK (i := 1) rfl rfl rfl (by decide) (by rw [bRow_len]; omega) (by show (one _ && (one _ && true)) = true; rw [h1]; rfl) fun lv2 h4 o4 => ?_
          have e : bRow xs ++ [[.int .i64 (-1 - d), s3]] = bRow (xs ++ [(s3, -1 - d, u)]) := by simp [bRow]
          rw [e] at o4
          have o4 : Hp h h4 [bufR s3 (Z u), bufK 2 lv2 (bRow (xs ++ [(s3, -1 - d, u)])), frzR g] := o4
          obtain ⟨g', eg, fr, o5⟩ := (o4.perm (L' := [bufR s3 (Z u), frzR g, bufK 2 lv2 (bRow (xs ++ [(s3, -1 - d, u)]))]) (.cons _ (.swap _ _ _))).freeze
          refine next lv2 _ g' h4 (o5.perm (.swap _ _ _)) (fun x hxm => ?_) ?_ (by simp; omega)
          · rcases List.mem_append.mp hxm with hxm | hxm
            · obtain ⟨a, b, e⟩ := hx x hxm
              exact ⟨a.ext eg, b, e⟩
            · obtain rfl : x = (s3, -1 - d, u) := by simpa using hxm
              exact ⟨⟨Buf.row fr, ic.len, ic.rng⟩, by show inI (-1 - d); unfold inI; omega, hu⟩
          · rw [List.map_append, List.nodup_append]
            refine ⟨hnd, by simp, fun a ha b hb => ?_⟩
            obtain ⟨x, hxm, rfl⟩ := List.mem_map.mp ha
            obtain rfl : b = -1 - d := by simpa using hb
            exact hno x hxm
    · dsimp only
      rw [xs_e]
      show cond true _ _
      rw [cond_true, nth0]
      refine sO _ _ _ _ _ (bs o) hnd fun v ys h2 e2 b2 hys => ⟨_, rfl, ?_⟩
      refine hok v ys h2 (o.ext.trans e2) b2 (fun y hy => (hx y (hys y hy)).2.2) fun h0 => ?_
      have hpn := List.length_pos_iff.mpr (isTerm_ne hp)
      exact hhd (by omega) h0
  exact key 0 (by omega) _ [] noH 0 1 h ((Hp.nil_ h).add_frz.add_nilK) (fun x hx => by cases hx) (by simp) (by simp) hp ht (by omega) (fun _ => rfl) (by omega)
end Go.Proofs.YtnlhnlmnlfmojaaGreatDoor.Am

namespace Go.Proofs.YtnlhnlmnlfmojaaGreatDoor.Am
open Go Go.Proofs Sys Go.Lib
set_option linter.unusedVariables false
set_option linter.unusedSimpArgs false
set_option maxRecDepth 100000
variable {D : Orc} {T : H → Prop}

def SpecRight8 (D : Orc) (f : Nat) (T : H → Prop) : Prop := ∀ va S tv t h (k : Kv) kp, Ss h va S → T h → Ir h tv t → (∀ h' e, Ext h h' → (e = 0 ↔ rightS S = true ∧ isTerm (S2 S.sig) t) → k (.int .i64 e) h') → D f [va, tv] h k kp
theorem spec65 (hT : Stays T) (c : Cl65 D) (sS : SpecSys D 30 T) (sT : SpecTerm D 62) : SpecRight8 D 65 T := by
  intro va S tv t h k kp hS ht it hk
  obtain ⟨sa, ra, rfl, hsa, hra⟩ := hS.ex
  refine c _ _ _ _ _ ?_
  unfold F65
  rw [aggW_agg]
  refine (Hp.nil_ h).new_ fun p1 h1 hp1 o1 => ?_
  rw [ptrW_ptr]
  refine ⟨sa, ra, rd2 (o1.cell (i := 0) rfl), ?_⟩
  refine sS _ S _ _ _ (hS.ext o1.ext) (hT _ _ o1.ext ht) fun h2 e2 => ⟨_, _, rfl, ?_⟩
  have o2 := o1.later e2
  rw [cond_ne]
  refine ⟨fun hne => hk h2 _ o2.ext ⟨fun h => absurd h hne, fun ⟨h, _⟩ => ?_⟩, fun he => ?_⟩
  · unfold rightS at h
    exact beq_iff_eq.mp h
  · have hr := right_sys he
    refine ldj (o2.cell (i := 0) rfl) rfl ?_
    refine sT _ _ S.sig t _ _ _ (hsa.ext o2.ext) (ar_of (right_ok hr).2.1) (it.ext o2.ext) ⟨_, rfl, ?_⟩
    exact hk h2 _ o2.ext ⟨fun h => ⟨hr, h⟩, fun h => h.2⟩
def SpecMatched (D : Orc) (f : Nat) : Prop := ∀ va S tv (t : List Int) (at_ rn : Nat) (u r : List Int) (ru : Ru) h (k : Kv) kp, Ss h va S → rightS S = true → Ir h tv t → t.drop at_ = u ++ r → isTerm (S2 S.sig) u → S.rules[rn]? = some ru → (∀ h', Ext h h' → k (.tuple #[.slice none 0 0, .bool false]) h') →
  (∀ v xs h', Ext h h' → Bs h' v xs → (∀ x ∈ xs, isTerm (S2 S.sig) x.2.2) → u.headD 0 = ru.1.headD 0 → k (.tuple #[v, .bool true]) h') → D f [va, tv, .int .i64 ((at_ : Nat) : Int), .int .i64 ((at_ + u.length : Nat) : Int), .int .i64 ((rn : Nat) : Int)] h k kp
theorem spec67 (c : Cl67 D) (sI : SpecInner D 90) : SpecMatched D 67 := by
  intro va S tv t at_ rn u r ru h k kp hS hr it htu hu hru hbad hok
  obtain ⟨sa, ra, rfl, hsa, hra⟩ := hS.ex
  refine c _ _ _ _ _ _ _ _ ?_
  unfold F67
  rw [intK_int, intK_int, intK_int, aggW_agg]
  refine (Hp.nil_ h).new_ fun p1 h1 hp1 o1 => ?_
  have hb := o1.cell (i := 0) rfl
  refine ldj hb rfl (ldj hb rfl ?_)
  have hl := congrArg List.length htu
  simp only [List.length_drop, List.length_append] at hl
  have hun := List.length_pos_iff.mpr (isTerm_ne hu)
  refine (hra.ext o1.ext).at_ (by omega) (by have := (List.getElem?_eq_some_iff.mp hru).1; omega) fun ad v w x hx hrd h0 h1r iv iw => ⟨v, h0, ?_⟩
  rw [Int.toNat_natCast, hru] at hx
  obtain rfl := Option.some.inj hx
  refine (it.ext o1.ext).cut2 (i := at_) (j := at_ + u.length) rfl rfl (by omega) (by omega) fun cv ic => ?_
  rw [part_eq htu] at ic
  have hq := ruleE_ok ((right_ok hr).2.2.2 ru (List.mem_of_getElem? hru))
  refine sI _ _ _ S.sig ru.1 u _ _ _ (hsa.ext o1.ext) (ar_of (right_ok hr).2.1) iv ic hq.1 hu (fun h2 e2 => ⟨_, _, rfl, hbad h2 (o1.ext.trans e2)⟩) fun v xs h2 e2 b2 ht hh => ⟨_, _, rfl, hok v xs h2 (o1.ext.trans e2) b2 ht (hh hq.2.2.2.2.1)⟩
def rxR (rs : List (Int × Int)) : List (List Value) := rs.map fun r => [.int .i64 r.1, .int .i64 r.2]
theorem rxR_len (rs : List (Int × Int)) : (rxR rs).length = rs.length := by simp [rxR]
def SpecAll (D : Orc) (f : Nat) (T : H → Prop) : Prop := ∀ va S tv (t : List Int) h (k : Kv) kp, Ss h va S → T h → Ir h tv t → t.length ≤ 512 → (∀ v rs h', Ext h h' → RowK 2 h' v (rxR rs) → rs.length ≤ 40000 → (∀ r ∈ rs, inI r.1 ∧ inI r.2) → k v h') → D f [va, tv] h k kp
theorem spec40 (hT : Stays T) (c : Cl40 D) (s65 : SpecRight8 D 65 T) (s66 : SpecEndT D 66) (s67 : SpecMatched D 67) : SpecAll D 40 T := by
  intro va S tv t h k kp hS ht it htl hk
  obtain ⟨sa, ra, rfl, hsa, hra⟩ := hS.ex
  refine c _ _ _ _ _ ?_
  unfold F40
  rw [aggW_agg]
  refine (Hp.nil_ h).new_ fun p1 h1 hp1 o1 => ?_
  refine o1.newSlK (sz := 2) fun s2 h2 o2 => ?_
  have o2 : Hp h h2 [bufK 2 s2 (rxR []), cellR p1 [sa, ra]] := o2
  rw [ptrW_ptr]
  refine ⟨sa, ra, rd2 (o2.cell (i := 1) rfl), ?_⟩
  refine s65 _ S _ _ _ _ _ (hS.ext o2.ext) (hT _ _ o2.ext ht) (it.ext o2.ext) fun h3 e e3 hiff => ⟨_, rfl, ?_⟩
  have o3 := o2.later e3
  rw [cond_ne]
  refine ⟨fun hne => hk s2 [] h3 o3.ext (o3.rowK (i := 0) rfl) (by simp) (by simp), fun he => ?_⟩
  obtain ⟨hr, htt⟩ := hiff.mp he
  obtain ⟨g1, g2, g3, g4⟩ := right_ok hr
  have har := ar_of g2
  intro I hI
  have key := down_ind (P := fun i => ∀ (ov : Value) (rs : List (Int × Int)) (h' : H), Hp h h' [bufK 2 ov (rxR rs), cellR p1 [sa, ra]] → (∀ r ∈ rs, inI r.1 ∧ inI r.2) → rs.length ≤ i * 64 → I [tv, Pt p1, ov, .int .i64 ((i : Nat) : Int)] h') t.length fun i hi ih ov rs h' o hrs hrl => by
    refine hI _ _ _ _ _ ?_
    unfold round40_5
    rw [intK_int, (it.ext o.ext).len_, cond_dec]
    refine ⟨fun hlt => ?_, fun hge => ?_⟩
    · have hi1 : i < t.length := by omega
      obtain ⟨u, r, hur, hu⟩ := scan_at _ t 1 i htt hi1
      have hul := congrArg List.length hur
      simp only [List.length_drop, List.length_append] at hul
      refine ldj (o.cell (i := 1) rfl) rfl ?_
      refine s66 _ _ S.sig t i u r _ _ _ (hsa.ext o.ext) har (it.ext o.ext) hur hu ⟨_, rfl, ?_⟩
      intro I2 hI2
      have key2 := down_ind (P := fun j => ∀ (ov : Value) (rs : List (Int × Int)) (h' : H), Hp h h' [bufK 2 ov (rxR rs), cellR p1 [sa, ra]] → (∀ r ∈ rs, inI r.1 ∧ inI r.2) → rs.length ≤ i * 64 + j → I2 [tv, Pt p1, ov, .int .i64 ((i : Nat) : Int), .int .i64 ((i + u.length : Nat) : Int), .int .i64 ((j : Nat) : Int)] h') S.rules.length fun j hj ih2 ov rs h' o hrs hrl => by
        refine hI2 _ _ _ _ _ _ _ ?_
        unfold round40_9
        rw [intK_int, intK_int, intK_int]
        refine ldj (o.cell (i := 1) rfl) rfl ?_
        rw [(hra.ext o.ext).len_, cond_dec]
        refine ⟨fun hlt2 => ?_, fun hge2 => ?_⟩
        · have hj1 : j < S.rules.length := by omega
          rw [ptrW_ptr]
          refine ⟨sa, ra, rd2 (o.cell (i := 1) rfl), ?_⟩
          have go : ∀ {K : Kl} (ov : Value) (rs : List (Int × Int)) (h' : H), Hp h h' [bufK 2 ov (rxR rs), cellR p1 [sa, ra]] → (∀ r ∈ rs, inI r.1 ∧ inI r.2) → rs.length ≤ i * 64 + (j + 1) → j40_9_10 D I2 K tv (Pt p1) ov (.int .i64 ((i : Nat) : Int)) (.int .i64 ((i + u.length : Nat) : Int)) (.int .i64 ((j : Nat) : Int)) h' := fun ov rs h' o hrs hrl => by
            unfold j40_9_10
            rw [intK_int, intK_int, intK_int, i64_id (by omega) (by omega)]
            exact ih2 hj1 ov rs h' o hrs hrl
          refine s67 _ S _ t i j u r S.rules[j] _ _ _ (hS.ext o.ext) hr (it.ext o.ext) hur hu (List.getElem?_eq_getElem hj1) (fun h4 e4 => ⟨_, _, rfl, ?_⟩) fun v xs h4 e4 _ _ _ => ⟨_, _, rfl, ?_⟩
          · rw [cond_false]
            exact go ov rs h4 (o.later e4) hrs (by omega)
          · rw [cond_true]
            refine ⟨rfl, by decide, rfl, by decide, rfl, by decide, ?_⟩
            refine (o.later e4).pushK (i := 0) rfl rfl rfl (by decide) (by rw [rxR_len]; omega) rfl fun s5 h5 o5 => ?_
            have e : rxR rs ++ [[.int .i64 ((i : Nat) : Int), .int .i64 ((j : Nat) : Int)]] = rxR (rs ++ [(((i : Nat) : Int), ((j : Nat) : Int))]) := by simp [rxR]
            rw [e] at o5
            refine go s5 _ h5 o5 (fun q hq => ?_) (by simp; omega)
            rcases List.mem_append.mp hq with hq | hq
            · exact hrs q hq
            · obtain rfl : q = (((i : Nat) : Int), ((j : Nat) : Int)) := by simpa using hq
              constructor
              · show inI ((i : Nat) : Int)
                unfold inI; omega
              · show inI ((j : Nat) : Int)
                unfold inI; omega
        · dsimp only
          rw [xs_e]
          show cond true _ _
          rw [cond_true, nth0, nth1, nth2, nth3, intK_int, i64_id (by omega) (by omega)]
          exact ih hi1 ov rs h' o hrs (by omega)
      exact key2 0 (by omega) ov rs h' o hrs (by omega)
    · dsimp only
      rw [xs_e]
      show cond true _ _
      rw [cond_true, nth0]
      exact hk ov rs h' o.ext (o.rowK (i := 0) rfl) (by omega) hrs
  exact key 0 (by omega) s2 [] h3 o3 (by simp) (by simp)
/-- One redex rewritten: what stands around stays. -/
def SpecDo (D : Orc) (f : Nat) (T : H → Prop) : Prop := ∀ va S tv (t : List Int) (at_ rn : Int) h (k : Kv) kp, Ss h va S → T h → Ir h tv t → t.length ≤ 512 → inI at_ → inI rn → (∀ h' e, Ext h h' → e ≠ 0 → k (.tuple #[.slice none 0 0, .int .i64 e]) h') →
  (∀ v h' (a b w x : List Int) (c : Int), Ext h h' → Ir h' v (a ++ (x ++ b)) → (a ++ (x ++ b)).length ≤ 2000 → t = a ++ ((c :: w) ++ b) → rightS S = true → c ∈ defL S → isTerm (S2 S.sig) (c :: w) → isTerm (S2 S.sig) x → k (.tuple #[v, .int .i64 0]) h') → D f [va, tv, .agg #[.int .i64 at_, .int .i64 rn]] h k kp
theorem root_def {S : Sm} (hr : rightS S = true) {ru : Ru} (hru : ru ∈ S.rules) : ru.1.headD 0 ∈ defL S := by
  obtain ⟨g1, g2, g3, g4⟩ := right_ok hr
  obtain ⟨c, h1, h2, h3, h4⟩ := root_at (g4 ru hru)
  unfold defL
  rw [if_pos hr, h2]
  refine List.mem_filter.mpr ⟨List.mem_map.mpr ⟨c.toNat, List.mem_range.mpr (by omega), by omega⟩, ?_⟩
  unfold isRoot
  exact List.any_eq_true.mpr ⟨ru, hru, by rw [h2]; simp⟩
theorem spec41 (hT : Stays T) (c : Cl41 D) (s65 : SpecRight8 D 65 T) (s66 : SpecEndT D 66) (s67 : SpecMatched D 67) (s37 : SpecLaid4 D 37) : SpecDo D 41 T := by
  intro va S tv t at_ rn h k kp hS ht it htl hat hrn hbad hok
  obtain ⟨sa, ra, rfl, hsa, hra⟩ := hS.ex
  refine c _ _ _ _ _ _ ?_
  unfold F41
  rw [aggW_agg]
  refine (Hp.nil_ h).new_ fun p1 h1 hp1 o1 => ?_
  rw [aggW_agg]
  refine o1.new_ fun p2 h2 hp2 o2 => ?_
  have o2 : Hp h h2 [cellR p2 [.int .i64 at_, .int .i64 rn], cellR p1 [sa, ra]] := o2
  rw [ptrW_ptr]
  refine ⟨sa, ra, rd2 (o2.cell (i := 1) rfl), ?_⟩
  refine s65 _ S _ _ _ _ _ (hS.ext o2.ext) (hT _ _ o2.ext ht) (it.ext o2.ext) fun h3 e e3 hiff => ⟨_, rfl, ?_⟩
  have o3 := o2.later e3
  rw [cond_ne]
  refine ⟨fun hne => hbad h3 e o3.ext hne, fun he => ?_⟩
  obtain ⟨hr, htt⟩ := hiff.mp he
  obtain ⟨g1, g2, g3, g4⟩ := right_ok hr
  have har := ar_of g2
  unfold inI at hat hrn
  -- behind the tests of the place
  have five : ∀ b : Bool, (b = false → 0 ≤ at_ ∧ at_ < t.length) → j41__5 D k kp tv (Pt p1) (Pt p2) (.bool b) h3 := fun b hb => by
    unfold j41__5
    rw [boolW_bool]
    cases b with
    | true => rw [cond_true]; exact hbad h3 _ o3.ext (by decide)
    | false =>
    rw [cond_false]
    obtain ⟨ha0, ha1⟩ := hb rfl
    have seven : ∀ b : Bool, (b = false → 0 ≤ rn ∧ rn < S.rules.length) → j41__7 D k kp tv (Pt p1) (Pt p2) (.bool b) h3 := fun b hb => by
      unfold j41__7
      rw [boolW_bool]
      cases b with
      | true => rw [cond_true]; exact hbad h3 _ o3.ext (by decide)
      | false =>
      rw [cond_false]
      obtain ⟨hr0, hr1⟩ := hb rfl
      obtain ⟨i, rfl⟩ : ∃ i : Nat, at_ = (i : Int) := ⟨at_.toNat, by omega⟩
      obtain ⟨j, rfl⟩ : ∃ j : Nat, rn = (j : Int) := ⟨rn.toNat, by omega⟩
      obtain ⟨u, r, hur, hu⟩ := scan_at _ t 1 i htt (by omega)
      have hul := congrArg List.length hur
      simp only [List.length_drop, List.length_append] at hul
      have hru : S.rules[j]? = some S.rules[j] := List.getElem?_eq_getElem (by omega)
      generalize S.rules[j] = ru at hru
      refine ldj (o3.cell (i := 1) rfl) rfl (ldjI (o3.cell (i := 0) rfl) rfl ?_)
      refine s66 _ _ S.sig t i u r _ _ _ (hsa.ext o3.ext) har (it.ext o3.ext) hur hu ⟨_, rfl, ?_⟩
      rw [ptrW_ptr]
      refine ⟨sa, ra, rd2 (o3.cell (i := 1) rfl), ?_⟩
      refine ldjI (o3.cell (i := 0) rfl) rfl (ldjI (o3.cell (i := 0) rfl) rfl ?_)
      refine s67 _ S _ t i j u r ru _ _ _ (hS.ext o3.ext) hr (it.ext o3.ext) hur hu hru (fun h4 e4 => ⟨_, _, rfl, ?_⟩) fun v xs h4 e4 b4 hxt hhd => ⟨_, _, rfl, ?_⟩
      · rw [Bool.not_false, cond_true]
        exact hbad h4 _ (o3.ext.trans e4) (by decide)
      · rw [Bool.not_true, cond_false]
        have o4 := o3.later e4
        refine ldjI (o4.cell (i := 0) rfl) rfl ?_
        rw [(it.ext o4.ext).len_]
        refine ldj (o4.cell (i := 1) rfl) rfl (ldjI (o4.cell (i := 0) rfl) rfl ?_)
        refine (hra.ext o4.ext).at_ (by omega) (by omega) fun ad v2 w2 x2 hx2 _ _ hw2 _ iw => ⟨w2, hw2, ?_⟩
        rw [Int.toNat_natCast, hru] at hx2
        obtain rfl := Option.some.inj hx2
        rw [i64_id (n := (512 : Int) - (i : Int)) (by omega) (by omega), i64_id (n := ((t.length : Nat) : Int) - ((i + u.length : Nat) : Int)) (by omega) (by omega), i64_id (n := (512 : Int) - (i : Int) - (((t.length : Nat) : Int) - ((i + u.length : Nat) : Int))) (by omega) (by omega)]
        generalize hroom : (512 : Int) - (i : Int) - (((t.length : Nat) : Int) - ((i + u.length : Nat) : Int)) = room
        refine ⟨rfl, ?_⟩
        have em : (bif true then (if (0 : Int) < room then room else 0) else (if room < 0 then room else 0)) = ((room.toNat : Nat) : Int) := by
          rw [cond_true]
          split <;> omega
        show D _ [v, w2, .int .i64 (bif true then (if (0 : Int) < room then room else 0) else (if room < 0 then room else 0))] h4 _ kp
        rw [em]
        have hq := ruleE_ok (g4 ru (List.mem_of_getElem? hru))
        have hx := app_term (bW_sub hxt) hq.2.1
        rw [← bW_app hq.2.1] at hx
        have hxr : ∀ y ∈ app (bV xs) ru.2, inI y := fun y hy => by
          have := scan_codes _ _ 1 hx y hy
          have h64 := (plain_ok g1).2
          rw [S2_len] at this
          unfold inI; omega
        obtain ⟨c0, w0, rfl⟩ := List.exists_cons_of_ne_nil (isTerm_ne hu)
        have htd : t.drop (i + (c0 :: w0).length) = r := by rw [← List.drop_drop, hur, List.drop_left]
        have full : ∀ (xv : Value) (h5 : H) (b : Bool), Ext h4 h5 → Buf h4 h5 xv (Z (app (bV xs) ru.2)) → (app (bV xs) ru.2).length ≤ room.toNat → j41__15 D k kp tv (Pt p2) (.int .i64 ((i + (c0 :: w0).length : Nat) : Int)) xv (.bool b) h5 := fun xv h5 b e5 b5 hl5 => by
          unfold j41__15
          rw [intK_int, boolW_bool]
          have o5 := o4.add_buf e5 b5
          cases b with
          | true => rw [cond_true]; exact hbad h5 _ o5.ext (by decide)
          | false =>
          rw [cond_false]
          refine o5.newSl0 fun s6 h6 o6 => ?_
          refine ldjI (o6.cell (i := 2) rfl) rfl ?_
          refine (it.ext o6.ext).cut2 (i := 0) (j := i) rfl rfl (by omega) (by omega) fun av ia => ?_
          rw [List.drop_zero] at ia
          refine o6.cat (i := 0) rfl ia (by decide) (by simp; omega) fun s7 h7 o7 => ?_
          refine o7.cat (i := 0) rfl ⟨o7.row (i := 1) rfl, by omega, hxr⟩ (by decide) (by simp [Z]; omega) fun s8 h8 o8 => ?_
          refine (it.ext o8.ext).cut2 (i := i + (c0 :: w0).length) (j := t.length) rfl rfl (by omega) (by omega) fun bv ib => ?_
          rw [List.take_length, htd] at ib
          refine o8.cat (i := 0) rfl ib (by decide) (by simp [Z]; omega) fun s9 h9 o9 => ?_
          have o9r := o9.row (i := 0) rfl
          rw [List.nil_append, Z_cat, Z_cat, List.append_assoc] at o9r
          refine hok s9 h9 (t.take i) r w0 _ c0 o9.ext ⟨o9r, by simp; omega, fun y hy => ?_⟩ (by simp only [List.length_append, List.length_take]; omega) (by rw [← hur, List.take_append_drop]) hr ?_ hu hx
          · rcases List.mem_append.mp hy with hy | hy
            · exact it.rng y (List.mem_of_mem_take hy)
            · rcases List.mem_append.mp hy with hy | hy
              · exact hxr y hy
              · exact ib.rng y hy
          · have h1 : c0 = ru.1.headD 0 := hhd
            rw [h1]
            exact root_def hr (List.mem_of_getElem? hru)
        refine s37 _ _ xs ru.2 room.toNat _ _ _ b4 iw (by omega) (fun h5 e5 => ⟨_, _, rfl, ?_⟩) fun xv h5 e5 b5 hl5 => ⟨_, _, rfl, ?_⟩
        · rw [Bool.not_not, cond_false]
          unfold j41__15
          rw [intK_int, boolW_bool, cond_true]
          exact hbad h5 _ (o4.ext.trans e5) (by decide)
        · rw [Bool.not_not, cond_true, b5.row.len]
          exact full xv h5 _ e5 b5 hl5
    refine ldjI (o3.cell (i := 0) rfl) rfl ?_
    rw [cond_not, cond_dec]
    refine ⟨fun _ => seven true (fun h => by cases h), fun hge => ?_⟩
    refine ldjI (o3.cell (i := 0) rfl) rfl (ldj (o3.cell (i := 1) rfl) rfl ?_)
    rw [(hra.ext o3.ext).len_]
    exact seven _ fun hb => ⟨by omega, by have := of_decide_eq_false hb; omega⟩
  refine ldjI (o3.cell (i := 0) rfl) rfl ?_
  rw [cond_not, cond_dec]
  refine ⟨fun _ => five true (fun h => by cases h), fun hge => ?_⟩
  refine ldjI (o3.cell (i := 0) rfl) rfl ?_
  rw [(it.ext o3.ext).len_]
  exact five _ fun hb => ⟨by omega, by have := of_decide_eq_false hb; omega⟩
end Go.Proofs.YtnlhnlmnlfmojaaGreatDoor.Am

namespace Go.Proofs.YtnlhnlmnlfmojaaGreatDoor.Am
open Go Go.Proofs Sys Go.Lib
set_option linter.unusedVariables false
set_option linter.unusedSimpArgs false
set_option maxRecDepth 100000
variable {D : Orc} {T : H → Prop}

def SpecPlace (D : Orc) (f : Nat) (T : H → Prop) : Prop := ∀ s t sig (l : List Int) (i : Int) h (k : Kv) kp, Sr h s sig → T h → Ir h t l → (∀ h', Ext h h' → k (.int .i64 (placeE sig l i)) h') → D f [s, t, .int .i64 i] h k kp
theorem spec64 (c : Cl64 D) (sC : SpecCheck D 36 T) : SpecPlace D 64 T := by
  intro s t sig l i h k kp hs ht it hk
  refine c _ _ _ _ _ _ ?_
  unfold F64
  rw [intK_int]
  refine sC _ _ _ _ _ _ _ hs ht it fun h1 e1 => ⟨_, rfl, ?_⟩
  have hlen := it.len
  unfold placeE at hk
  have fin : ∀ (e : Int) (b : Bool), (bif b then 33 else e) = (if chkTerm sig l ≠ 0 then chkTerm sig l else if i < 0 ∨ (l.length : Int) ≤ i then 33 else 0) → j64__3 D k kp (.int .i64 e) (.bool b) h1 := fun e b he => by
    unfold j64__3
    rw [intK_int, boolW_bool]
    have hk := hk h1 e1
    rw [← he] at hk
    cases b with
    | true =>
      rw [cond_true]
      unfold j64__4
      rw [intK_int]; exact hk
    | false =>
      rw [cond_false]
      unfold j64__4
      rw [intK_int]; exact hk
  rw [cond_eq]
  refine ⟨fun h0 => ?_, fun hne => fin _ _ (by rw [if_pos hne]; rfl)⟩
  rw [cond_not, cond_dec]
  refine ⟨fun hneg => fin _ _ ?_, fun hge => ?_⟩
  · rw [if_neg (fun h => h h0), if_pos (.inl hneg)]; rfl
  · rw [(it.ext e1).len_]
    refine fin _ _ ?_
    rw [if_neg (fun h => h h0)]
    by_cases h1 : i ≥ (l.length : Int)
    · rw [decide_eq_true h1, if_pos (.inr h1)]; rfl
    · rw [decide_eq_false h1, if_neg (by omega), h0]; rfl
theorem chk_term {sig : List Sy} {l : List Int} (h : chkTerm sig l = 0) : isTerm (S2 sig) l := (chkTerm_ok h).2
theorem chk_sig {sig : List Sy} {l : List Int} (h : chkTerm sig l = 0) : chkSig sig = 0 := by
  unfold chkTerm at h
  split at h
  · rename_i hne; exact absurd h hne
  · rename_i hne; exact Classical.not_not.mp hne
theorem spec39 (hT : Stays T) (c : Cl39 D) (sP : SpecPlace D 64 T) (sE : SpecEndT D 33) : SpecSub D 39 T := by
  intro s t sig l i h k kp hi hs ht it hk
  refine c _ _ _ _ _ _ ?_
  unfold F39
  rw [intK_int]
  refine sP _ _ _ _ _ _ _ _ hs ht it fun h1 e1 => ⟨_, rfl, ?_⟩
  have hlen := it.len
  unfold subV at hk
  rw [cond_ne]
  refine ⟨fun hne => ?_, fun h0 => ?_⟩
  · rw [if_neg hne] at hk
    exact hk _ h1 e1 (.inl ⟨⟨none, rfl⟩, rfl⟩)
  · rw [if_pos h0, h0] at hk
    obtain ⟨hc, h2, h3⟩ := placeE_ok h0
    have ht' := chk_term hc
    obtain ⟨i, rfl⟩ : ∃ n : Nat, i = (n : Int) := ⟨i.toNat, by omega⟩
    obtain ⟨u, r, hur, hu⟩ := scan_at _ l 1 i ht' (by omega)
    have hul := congrArg List.length hur
    simp only [List.length_drop, List.length_append] at hul
    have o1 := (Hp.nil_ h).later e1
    refine o1.newSl0 fun s2 h2 o2 => ?_
    refine sE _ _ sig l i u r _ _ _ (hs.ext o2.ext) (ar_of (chk_sig hc)) (it.ext o2.ext) hur hu ⟨_, rfl, ?_⟩
    refine (it.ext o2.ext).cut2 (i := i) (j := i + u.length) rfl rfl (by omega) (by omega) fun cv ic => ?_
    rw [part_eq hur] at ic
    refine o2.cat (i := 0) rfl ic (by decide) (by simp; omega) fun s3 h3 o3 => ?_
    refine hk s3 h3 o3.ext ?_
    rw [Int.toNat_natCast, subT_of hur hu]
    exact (o3.buf (i := 0) rfl).of_new fun q hq => (o3.new _ (List.mem_cons_self ..) q hq).1
/-- The places of a right term's arguments. -/
def SpecKids (D : Orc) (f : Nat) (T : H → Prop) : Prop := ∀ s t sig (l : List Int) h (k : Kv) kp, Sr h s sig → T h → Ir h t l → chkTerm sig l = 0 → 0 ≤ l.headD 0 → (∀ v ks h', Ext h h' → Row h' v (Z ks) → ks.length ≤ 8 → (∀ c ∈ ks, ∃ n : Nat, c = (n : Int) ∧ 1 ≤ n ∧ n < l.length) → k (.tuple #[v, .int .i64 0]) h') → D f [s, t, .int .i64 0] h k kp
theorem spec38 (hT : Stays T) (c : Cl38 D) (sP : SpecPlace D 64 T) (sE : SpecEndT D 33) : SpecKids D 38 T := by
  intro s t sig l h k kp hs ht it hc h0 hk
  refine c _ _ _ _ _ _ ?_
  unfold F38
  rw [intK_int]
  have ht' := chk_term hc
  have hlp := List.length_pos_iff.mpr (isTerm_ne ht')
  have hlen := it.len
  have hsl := hs.len
  have hp0 : placeE sig l 0 = 0 := by
    unfold placeE
    rw [if_neg (by rw [hc]; simp), if_neg (by omega)]
  refine sP _ _ _ _ _ _ _ _ hs ht it fun h1 e1 => ⟨_, rfl, ?_⟩
  rw [hp0, cond_ne]
  refine ⟨fun hne => absurd rfl hne, fun _ => ?_⟩
  obtain ⟨d, l1, rfl⟩ := List.exists_cons_of_ne_nil (isTerm_ne ht')
  have h0 : 0 ≤ d := h0
  refine (it.ext e1).at_ (by omega) (by simp) fun ad x hx hxi hrd => ⟨x, hrd, ?_⟩
  obtain rfl : d = x := by simpa using hx
  rw [decide_eq_true h0, cond_true, i64_id (by omega) (by omega)]
  have har := ar_of (chk_sig hc)
  obtain ⟨hds, hscan⟩ := scan_sym ht' h0
  rw [S2_len] at hds
  have hdn : d.toNat < sig.length := by omega
  have hy : sig[d.toNat]? = some sig[d.toNat] := List.getElem?_eq_getElem hdn
  generalize sig[d.toNat] = y at hy
  have hk8 := har y (List.mem_of_getElem? hy)
  have hkd := kids_of (sig := sig) h0 hy
  have o1 := ((Hp.nil_ h).later e1).add_nil (a := none)
  intro I hI
  have key := down_ind (P := fun j => ∀ (ov : Value) (ks : List Int) (p : Nat) (h' : H), Hp h h' [bufR ov (Z ks)] → ks.length = j → (∀ c ∈ ks, ∃ n : Nat, c = (n : Int) ∧ 1 ≤ n ∧ n < (d :: l1).length) → 1 ≤ p → p ≤ (d :: l1).length → scan (S2 sig) (y.2.toNat - j) ((d :: l1).drop p) = 0 →
      I [s, t, .int .i64 0, ov, .int .i64 ((p : Nat) : Int), .int .i64 ((j : Nat) : Int)] h') y.2.toNat fun j hj ih ov ks p h' o hkl hks hp1 hp2 hsc => by
    refine hI _ _ _ _ _ _ _ ?_
    unfold round38_8
    rw [intK_int, intK_int, intK_int]
    refine (it.ext o.ext).at_ (by omega) (by simp) fun ad x hx hxi hrd => ⟨x, hrd, ?_⟩
    obtain rfl : d = x := by simpa using hx
    refine (hs.ext o.ext).row.at_ (by omega) (by rw [sgRow_len]; omega) fun ad v hv hrd hjx => ?_
    obtain ⟨y', hy', rfl⟩ := sgRow_at hv
    rw [hy] at hy'
    obtain rfl := Option.some.inj hy'
    refine ⟨y.2, hjx 1 _ rfl, ?_⟩
    rw [cond_dec]
    refine ⟨fun hlt => ?_, fun hge => ?_⟩
    · obtain ⟨m, hm⟩ : ∃ m, y.2.toNat - j = m + 1 := ⟨y.2.toNat - j - 1, by omega⟩
      rw [hm] at hsc
      obtain ⟨u, r, hur, hu, hr⟩ := first_term hsc
      have hul := congrArg List.length hur
      have hun := List.length_pos_iff.mpr (isTerm_ne hu)
      simp only [List.length_drop, List.length_append, List.length_cons] at hul hlen hp2
      refine o.push (i := 0) rfl (by decide) (by rw [Z_len]; omega) rfl rfl (by decide) fun s2 h2 o2 => ?_
      have e : Z ks ++ [Value.int .i64 ((p : Nat) : Int)] = Z (ks ++ [((p : Nat) : Int)]) := by simp [Z]
      rw [e] at o2
      refine sE _ _ sig _ p u r _ _ _ (hs.ext o2.ext) har (it.ext o2.ext) hur hu ⟨_, rfl, ?_⟩
      rw [i64_id (by omega) (by omega)]
      refine ih (by omega) s2 _ (p + u.length) h2 o2 (by simp [hkl]) (fun c hcm => ?_) (by omega) (by simp only [List.length_cons]; omega) ?_
      · rcases List.mem_append.mp hcm with hcm | hcm
        · exact hks c hcm
        · obtain rfl : c = ((p : Nat) : Int) := by simpa using hcm
          exact ⟨p, rfl, hp1, by simp only [List.length_cons]; omega⟩
      · rw [show y.2.toNat - (j + 1) = m by omega, ← List.drop_drop, hur, List.drop_left]
        exact hr
    · dsimp only
      rw [xs_e]
      show cond true _ _
      rw [cond_true, nth0]
      unfold j38__12
      exact hk ov ks h' o.ext (o.row (i := 0) rfl) (by omega) hks
  exact key 0 (by omega) _ [] 1 h1 o1 rfl (by simp) (by omega) (by simp) (by rw [Nat.sub_zero, ← hkd]; exact hscan)
def SpecReplace (D : Orc) (f : Nat) (T : H → Prop) : Prop := ∀ s t uv sig (l v : List Int) (i : Nat) h (k : Kv) kp, Sr h s sig → T h → Ir h t l → Ir h uv v → l.length ≤ 2000 → v.length ≤ 2000 → (∀ w h' e, Ext h h' → e ≠ 0 → k (.tuple #[w, .int .i64 e]) h') →
  (∀ w h' (a u b : List Int), Ext h h' → chkTerm sig l = 0 → chkTerm sig v = 0 → l = a ++ (u ++ b) → a.length = i → isTerm (S2 sig) u → Ir h' w (a ++ (v ++ b)) → (a ++ (v ++ b)).length ≤ 512 → k (.tuple #[w, .int .i64 0]) h') → D f [s, t, .int .i64 ((i : Nat) : Int), uv] h k kp
theorem spec42 (hT : Stays T) (c : Cl42 D) (sC : SpecCheck D 36 T) (sP : SpecPlace D 64 T) (sE : SpecEndT D 33) : SpecReplace D 42 T := by
  intro s t uv sig l v i h k kp hs ht it iu hl2 hv2 hbad hok
  refine c _ _ _ _ _ _ _ ?_
  unfold F42
  rw [intK_int]
  have bad6 : ∀ (h' : H) (e : Int), Ext h h' → e ≠ 0 → j42__6 D k kp s t (.int .i64 ((i : Nat) : Int)) uv (.int .i64 e) h' := fun h' e e1 hne => by
    unfold j42__6
    rw [intK_int, intK_int, cond_ne]
    exact ⟨fun _ => hbad _ h' e e1 hne, fun h0 => absurd h0 hne⟩
  have bad4 : ∀ (h' : H) (e : Int), Ext h h' → e ≠ 0 → j42__4 D k kp s t (.int .i64 ((i : Nat) : Int)) uv (.int .i64 e) h' := fun h' e e1 hne => by
    unfold j42__4
    rw [intK_int, intK_int, cond_eq]
    exact ⟨fun h0 => absurd h0 hne, fun _ => bad6 h' e e1 hne⟩
  refine sC _ _ _ _ _ _ _ hs ht it fun h1 e1 => ⟨_, rfl, ?_⟩
  rw [cond_eq]
  refine ⟨fun hc => ?_, fun hne => bad4 h1 _ e1 hne⟩
  refine sC _ _ _ _ _ _ _ (hs.ext e1) (hT _ _ e1 ht) (iu.ext e1) fun h2 e2 => ⟨_, rfl, ?_⟩
  have e12 := e1.trans e2
  by_cases hv : chkTerm sig v = 0
  · rw [hv]
    unfold j42__4
    rw [intK_int, intK_int, cond_eq]
    refine ⟨fun _ => ?_, fun h => absurd rfl h⟩
    refine sP _ _ _ _ _ _ _ _ (hs.ext e12) (hT _ _ e12 ht) (it.ext e12) fun h3 e3 => ⟨_, rfl, ?_⟩
    have e13 := e12.trans e3
    by_cases hp : placeE sig l ((i : Nat) : Int) = 0
    · rw [hp]
      obtain ⟨_, _, hil⟩ := placeE_ok hp
      have hlen := it.len
      have hvl := iu.len
      unfold j42__6
      rw [intK_int, intK_int, cond_ne]
      refine ⟨fun h => absurd rfl h, fun _ => ?_⟩
      obtain ⟨u, r, hur, hu⟩ := scan_at _ l 1 i (chk_term hc) (by omega)
      have hul := congrArg List.length hur
      simp only [List.length_drop, List.length_append] at hul
      have htd : l.drop (i + u.length) = r := by rw [← List.drop_drop, hur, List.drop_left]
      refine ((Hp.nil_ h).later e13).newSl0 fun s4 h4 o4 => ?_
      refine (it.ext o4.ext).cut2 (i := 0) (j := i) rfl rfl (by omega) (by omega) fun av ia => ?_
      rw [List.drop_zero] at ia
      refine o4.cat (i := 0) rfl ia (by decide) (by simp; omega) fun s5 h5 o5 => ?_
      refine o5.cat (i := 0) rfl (iu.ext o5.ext) (by decide) (by simp [Z]; omega) fun s6 h6 o6 => ?_
      refine sE _ _ sig l i u r _ _ _ (hs.ext o6.ext) (ar_of (chk_sig hc)) (it.ext o6.ext) hur hu ⟨_, rfl, ?_⟩
      refine (it.ext o6.ext).cut2 (i := i + u.length) (j := l.length) rfl rfl (by omega) (by omega) fun bv ib => ?_
      rw [List.take_length, htd] at ib
      refine o6.cat (i := 0) rfl ib (by decide) (by simp [Z]; omega) fun s7 h7 o7 => ?_
      have o7r := o7.row (i := 0) rfl
      rw [List.nil_append, Z_cat, Z_cat, List.append_assoc] at o7r
      rw [o7r.len, Z_len, cond_dec]
      refine ⟨fun _ => hbad _ h7 _ o7.ext (by decide), fun hle => ?_⟩
      refine hok s7 h7 (l.take i) u r o7.ext hc hv (by rw [← hur, List.take_append_drop]) (by simp; omega) hu ⟨o7r, by omega, fun y hy => ?_⟩ (by omega)
      rcases List.mem_append.mp hy with hy | hy
      · exact it.rng y (List.mem_of_mem_take hy)
      · rcases List.mem_append.mp hy with hy | hy
        · exact iu.rng y hy
        · exact ib.rng y hy
    · exact bad6 h3 _ e13 hp
  · exact bad4 h2 _ e12 hv
/-! ### which of some things -/
theorem spec14 (c : Cl14 D) {x : Int} {n : Nat} {h : H} {k : Kv} {kp : Kp} (hx : inI x) (hn : 0 < n) (hn2 : n < 2 ^ 40) (hk : ∀ i : Nat, i < n → k (.int .i64 ((i : Nat) : Int)) h) : D 14 [.int .i64 x, .int .i64 ((n : Nat) : Int)] h k kp := by
  refine c _ _ _ _ _ ?_
  unfold F14
  unfold inI at hx
  have fin : ∀ y : Int, 0 ≤ y → j14__3 D k kp (.int .i64 y) (.int .i64 ((n : Nat) : Int)) h := fun y hy => by
    unfold j14__3
    rw [intK_int, intK_int]
    refine ⟨by omega, ?_⟩
    have h1 := Int.tmod_nonneg ((n : Nat) : Int) hy
    have h2 := Int.tmod_lt_of_pos y (show (0 : Int) < ((n : Nat) : Int) by omega)
    have h3 := hk (y.tmod ((n : Nat) : Int)).toNat (by omega)
    rw [Int.toNat_of_nonneg h1] at h3
    exact h3
  rw [intK_int, intK_int, cond_dec]
  refine ⟨fun hneg => ?_, fun hge => fin x (by omega)⟩
  rw [i64_id (n := x + 1) (by omega) (by omega), i64_id (by omega) (by omega)]
  exact fin _ (by omega)
end Go.Proofs.YtnlhnlmnlfmojaaGreatDoor.Am

namespace Go.Proofs.YtnlhnlmnlfmojaaGreatDoor.Am
open Go Go.Proofs Sys Go.Lib
set_option linter.unusedVariables false
set_option linter.unusedSimpArgs false
set_option maxRecDepth 100000
variable {D : Orc} {T : H → Prop}

/-! ### a left side that matches -/
/-- What codes of variables are bound to. -/
def mV (xs : List Bd1) (c : Int) : List Int := match xs.find? (fun x => x.2.1 == c) with
  | some x => x.2.2
  | none => [-1]
theorem mV_sub {sig : Sg} {xs : List Bd1} (hx : ∀ x ∈ xs, isTerm sig x.2.2) : Sub sig (mV xs) := fun c => by
  unfold mV
  split
  · rename_i x h
    exact hx x (List.mem_of_find?_eq_some h)
  · unfold isTerm scan badC
    simp [kids, scan]; omega
theorem mV_mem {xs : List Bd1} (hnd : (xs.map fun x => x.2.1).Nodup) {x : Bd1} (hx : x ∈ xs) : mV xs x.2.1 = x.2.2 := by
  unfold mV
  cases hf : xs.find? (fun y => y.2.1 == x.2.1) with
  | none =>
    have := List.find?_eq_none.mp hf x hx
    simp at this
  | some y =>
    have h1 := List.mem_of_find?_eq_some hf
    have h2 := List.find?_some hf
    have := var_inj hnd y h1 x hx (by simpa using h2)
    rw [this]
def SpecMatches (D : Orc) (f : Nat) : Prop := ∀ gv pv tv (sg : List Sy) (p t : List Int) h (k : Kv) kp, Sr h gv sg → ArOk sg → Ir h pv p → Ir h tv t → isTerm (S2 sg) p → isTerm (S2 sg) t → (∀ h', Ext h h' → k (.bool false) h') → ((∃ τ, Sub (S2 sg) τ ∧ app τ p = t) → ∀ h', Ext h h' → k (.bool true) h') → D f [gv, pv, tv] h k kp
theorem spec16 (c : Cl16 D) (sR : SpecSameRow D 12) (sE : SpecEndT D 33) : SpecMatches D 16 := by
  intro gv pv tv sg p t h k kp hg ha ip it hp ht hbad hok
  refine c _ _ _ _ _ _ ?_
  unfold F16
  have hpl := ip.len
  have htl := it.len
  refine (Hp.nil_ h).newSlK (sz := 2) fun s1 h1 o1 => ?_
  have o1 : Hp h h1 [bufK 2 s1 (bRow [])] := o1
  intro I hI
  have key := down_ind (P := fun i => ∀ (lv : Value) (xs : List Bd1) (at_ m : Nat) (h' : H), Hp h h' [bufK 2 lv (bRow xs)] → (∀ x ∈ xs, Ir h x.1 x.2.2 ∧ inI x.2.1 ∧ isTerm (S2 sg) x.2.2) → (xs.map fun x => x.2.1).Nodup → xs.length ≤ i → scan (S2 sg) m (p.drop i) = 0 → scan (S2 sg) m (t.drop at_) = 0 →
      at_ ≤ t.length → (∀ τ : Int → List Int, (∀ x ∈ xs, τ x.2.1 = x.2.2) → app τ (p.take i) = t.take at_) → I [gv, pv, tv, .int .i64 ((at_ : Nat) : Int), lv, .int .i64 ((i : Nat) : Int)] h') p.length
    fun i hi ih lv xs at_ m h' o hx hnd hxl hsp hst hat hap => by
    refine hI _ _ _ _ _ _ _ ?_
    unfold round16_4
    rw [intK_int, intK_int, (ip.ext o.ext).len_, cond_dec]
    have bs : Bs h' lv xs := ⟨o.rowK (i := 0) rfl, by omega, fun x hxm => ⟨(hx x hxm).1.ext o.ext, (hx x hxm).2.1⟩⟩
    refine ⟨fun hlt => ?_, fun hge => ?_⟩
    · have hi1 : i < p.length := by omega
      obtain ⟨d, hd⟩ : ∃ d, p[i]? = some d := ⟨_, List.getElem?_eq_getElem hi1⟩
      have hdr := (split_at hd).2.2
      have htk := (split_at hd).2.1
      rw [hdr] at hsp
      obtain ⟨m', rfl, hsp'⟩ := scan_next hsp
      obtain ⟨u, r, hur, hu, hr⟩ := first_term hst
      have hul := congrArg List.length hur
      have hun := List.length_pos_iff.mpr (isTerm_ne hu)
      simp only [List.length_drop, List.length_append] at hul
      refine (ip.ext o.ext).at_ (by omega) (by omega) fun ad x hx1 hxi hrd => ⟨x, hrd, ?_⟩
      rw [Int.toNat_natCast, hd] at hx1
      obtain rfl := Option.some.inj hx1
      rw [cond_dec]
      refine ⟨fun hpos => ?_, fun hneg => ?_⟩
      · refine (it.ext o.ext).at_ (by omega) (by omega) fun ad y hy _ hrd => ⟨y, hrd, ?_⟩
        rw [Int.toNat_natCast] at hy
        refine (ip.ext o.ext).at_ (by omega) (by omega) fun ad x hx1 hxi hrd => ⟨x, hrd, ?_⟩
        rw [Int.toNat_natCast, hd] at hx1
        obtain rfl := Option.some.inj hx1
        rw [cond_ne]
        refine ⟨fun hne => ?_, fun he => ?_⟩
        · dsimp only
          rw [xs_r, nth0, boolW_bool]
          exact hbad h' o.ext
        · subst he
          have htd := (split_at hy).2.2
          rw [htd] at hst
          obtain ⟨m2, hm2, hst'⟩ := scan_next hst
          obtain rfl : m2 = m' := by omega
          unfold j16_4_5
          rw [intK_int, intK_int, i64_id (by omega) (by omega), i64_id (by omega) (by omega)]
          refine ih hi1 lv xs (at_ + 1) _ h' o hx hnd (by omega) hsp' hst' (by omega) fun τ hτ => ?_
          rw [htk, (split_at hy).2.1, app_append, hap τ hτ, app_pos (by omega), app_nil]
      · refine sE _ _ sg t at_ u r _ _ _ (hg.ext o.ext) ha (it.ext o.ext) hur hu ⟨_, rfl, ?_⟩
        have hxi' := hxi
        have htd : t.drop (at_ + u.length) = r := by rw [← List.drop_drop, hur, List.drop_left]
        have htu : t.take (at_ + u.length) = t.take at_ ++ u := by
          rw [List.take_add, hur, List.take_left]
        have hk0 : kids (S2 sg) d = 0 := kids_neg (by omega)
        rw [hk0, Nat.add_zero] at hsp'
        have next : ∀ {K : Kl} (lv2 : Value) (xs2 : List Bd1) (h4 : H), Hp h h4 [bufK 2 lv2 (bRow xs2)] → (∀ x ∈ xs2, Ir h x.1 x.2.2 ∧ inI x.2.1 ∧ isTerm (S2 sg) x.2.2) → (xs2.map fun x => x.2.1).Nodup → xs2.length ≤ i + 1 → (∀ x ∈ xs, x ∈ xs2) → (∀ τ : Int → List Int, (∀ x ∈ xs2, τ x.2.1 = x.2.2) → τ d = u) →
            j16_4_22 D I K gv pv tv lv2 (.int .i64 ((i : Nat) : Int)) (.int .i64 ((at_ + u.length : Nat) : Int)) h4 := fun lv2 xs2 h4 o4 hx2 hnd2 hl2 hsub hdu => by
          unfold j16_4_22
          rw [intK_int, intK_int]
          unfold j16_4_5
          rw [intK_int, intK_int, i64_id (by omega) (by omega)]
          refine ih hi1 lv2 xs2 (at_ + u.length) m' h4 o4 hx2 hnd2 hl2 hsp' (by rw [htd]; exact hr) (by omega) fun τ hτ => ?_
          rw [htk, htu, app_append, hap τ fun x hx => hτ x (hsub x hx), app_neg (by omega), app_nil, List.append_nil, hdu τ hτ]
        intro I2 hI2
        have key2 := down_ind (P := fun j => ∀ met : Bool, (met = true → ∃ x ∈ xs, x.2.1 = d ∧ x.2.2 = u) → (met = false → ∀ (n : Nat) x, n < j → xs[n]? = some x → x.2.1 ≠ d) → I2 [gv, pv, tv, .int .i64 ((at_ : Nat) : Int), lv, .int .i64 ((i : Nat) : Int), .int .i64 ((at_ + u.length : Nat) : Int), .bool met, .int .i64 ((j : Nat) : Int)] h') xs.length fun j hj ih2 met hm1 hm2 => by
          refine hI2 _ _ _ _ _ _ _ _ _ _ ?_
          unfold round16_13
          rw [intK_int, intK_int, intK_int, boolW_bool, intK_int, bs.len_, cond_dec]
          refine ⟨fun hlt2 => ?_, fun hge2 => ?_⟩
          · have hj1 : j < xs.length := by omega
            refine bs.at_ (by omega) (by omega) fun ad x hx1 hxi ix _ h0 _ => ⟨x.2.1, h0, ?_⟩
            rw [Int.toNat_natCast] at hx1
            refine (ip.ext o.ext).at_ (by omega) (by omega) fun ad y hy1 _ hrd => ⟨y, hrd, ?_⟩
            rw [Int.toNat_natCast, hd] at hy1
            obtain rfl := Option.some.inj hy1
            rw [cond_eq]
            refine ⟨fun he => ?_, fun hne => ?_⟩
            · refine bs.at_ (by omega) (by omega) fun ad x' hx1' _ ix _ _ h1 => ⟨x'.1, h1, ?_⟩
              rw [Int.toNat_natCast, hx1] at hx1'
              obtain rfl := Option.some.inj hx1'
              refine (it.ext o.ext).cut2 (i := at_) (j := at_ + u.length) rfl rfl (by omega) (by omega) fun cv ic => ?_
              rw [part_eq hur] at ic
              refine sR _ _ _ _ _ _ _ ix ic ⟨_, rfl, ?_⟩
              rw [cond_not, cond_dec]
              refine ⟨fun hsame => ?_, fun _ => ?_⟩
              · unfold j16_13_14
                rw [intK_int, intK_int, intK_int, boolW_bool, intK_int, i64_id (by omega) (by omega)]
                exact ih2 hj1 true (fun _ => ⟨x, List.mem_of_getElem? hx1, he, hsame⟩) (fun h => by cases h)
              · dsimp only
                rw [xs_r, nth0, boolW_bool, xs_r, nth0, boolW_bool]
                exact hbad h' o.ext
            · unfold j16_13_14
              rw [intK_int, intK_int, intK_int, boolW_bool, intK_int, i64_id (by omega) (by omega)]
              refine ih2 hj1 met hm1 fun hmf n y hn hy => ?_
              by_cases hnj : n = j
              · subst hnj
                rw [hx1] at hy
                obtain rfl := Option.some.inj hy
                exact hne
              · exact hm2 hmf n y (by omega) hy
          · dsimp only
            rw [xs_e]
            show cond true _ _
            rw [cond_true, nth3, nth5, nth6, nth7, nth1, nth2, nth4, nth0, intK_int, intK_int, intK_int, boolW_bool]
            cases met with
            | true =>
              rw [Bool.not_true, cond_false]
              obtain ⟨x, hxm, h1, h2⟩ := hm1 rfl
              exact next lv xs h' o hx hnd (by omega) (fun x h => h) fun τ hτ => by rw [← h1, hτ x hxm, h2]
            | false =>
              rw [Bool.not_false, cond_true]
              have hno := hm2 rfl
              refine (ip.ext o.ext).at_ (by omega) (by omega) fun ad y hy1 _ hrd => ⟨y, hrd, ?_⟩
              rw [Int.toNat_natCast, hd] at hy1
              obtain rfl := Option.some.inj hy1
              refine it.cut2 (i := at_) (j := at_ + u.length) rfl rfl (by omega) (by omega) fun cv ic => ?_
              rw [part_eq hur] at ic
              have h1 := sl_one' ic.row
              refine ⟨rfl, by decide, h1, by decide, rfl, by decide, ?_⟩
              refine o.pushK (i := 0) rfl rfl rfl (by decide) (by rw [bRow_len]; omega) (by show (one _ && (one _ && true)) = true; rw [h1]; rfl) fun lv2 h4 o4 => ?_
              have e : bRow xs ++ [[.int .i64 d, cv]] = bRow (xs ++ [(cv, d, u)]) := by simp [bRow]
              rw [e] at o4
              refine next lv2 _ h4 o4 (fun x hxm => ?_) ?_ (by simp; omega) (fun x hxm => List.mem_append_left _ hxm) fun τ hτ => hτ (cv, d, u) (by simp)
              · rcases List.mem_append.mp hxm with hxm | hxm
                · exact hx x hxm
                · obtain rfl : x = (cv, d, u) := by simpa using hxm
                  exact ⟨ic, hxi', hu⟩
              · rw [List.map_append, List.nodup_append]
                refine ⟨hnd, by simp, fun a ha b hb => ?_⟩
                obtain ⟨x, hxm, rfl⟩ := List.mem_map.mp ha
                obtain rfl : b = d := by simpa using hb
                obtain ⟨n, hn⟩ := List.getElem?_of_mem hxm
                exact hno n x (by have := (List.getElem?_eq_some_iff.mp hn).1; omega) hn
        exact key2 0 (by omega) false (fun h => by cases h) fun _ n x hn => by omega
    · dsimp only
      rw [xs_e]
      show cond true _ _
      rw [cond_true]
      have hpi : p.length ≤ i := by omega
      rw [List.drop_eq_nil_of_le hpi] at hsp
      have hm0 : m = 0 := by
        cases m with
        | zero => rfl
        | succ m => simp [scan] at hsp
      subst hm0
      have htn : t.drop at_ = [] := by
        cases hq : t.drop at_ with
        | nil => rfl
        | cons a b => rw [hq] at hst; simp [scan] at hst
      have e := hap (mV xs) fun x hxm => mV_mem hnd hxm
      rw [List.take_of_length_le hpi, List.take_of_length_le (List.drop_eq_nil_iff.mp htn)] at e
      exact hok ⟨mV xs, mV_sub fun x hxm => (hx x hxm).2.2, e⟩ h' o.ext
  exact key 0 (by omega) s1 [] 0 1 h1 o1 (fun x hx => by cases hx) (by simp) (by simp) hp ht (by omega) fun τ _ => rfl
/-! ### binds that are right, and what they make -/
def SpecCheck4 (D : Orc) (f : Nat) (T : H → Prop) : Prop := ∀ gv s sg (xs : List Bd1) h (k : Kv) kp, Sr h gv sg → T h → Bs h s xs → (∀ h' e, Ext h h' → e ≠ 0 → k (.int .i64 e) h') → (chkSig sg = 0 → (∀ x ∈ xs, isTerm (S2 sg) x.2.2) → ∀ h', Ext h h' → k (.int .i64 0) h') → D f [gv, s] h k kp
theorem spec35 (hT : Stays T) (c : Cl35 D) (sG : SpecSig D 60 T) (sC : SpecCheck D 36 T) : SpecCheck4 D 35 T := by
  intro gv s sg xs h k kp hg ht r hbad hok
  refine c _ _ _ _ _ ?_
  unfold F35
  have hlen := r.len
  refine sG _ _ _ _ _ hg ht fun h1 e1 => ⟨_, rfl, ?_⟩
  rw [cond_ne]
  refine ⟨fun hne => hbad h1 _ e1 hne, fun h0 => ?_⟩
  intro I hI
  have key := down_ind (P := fun i => ∀ h', Ext h h' → (∀ (n : Nat) x, n < i → xs[n]? = some x → isTerm (S2 sg) x.2.2) → I [gv, s, .int .i64 ((i : Nat) : Int)] h') xs.length fun i hi ih h' e hx => by
    refine hI _ _ _ _ ?_
    unfold round35_5
    rw [intK_int, (r.ext e).len_, cond_dec]
    refine ⟨fun hlt => ?_, fun hge => ?_⟩
    · have hi1 : i < xs.length := by omega
      obtain ⟨x, hxi⟩ : ∃ x, xs[i]? = some x := ⟨_, List.getElem?_eq_getElem hi1⟩
      have rdv : ∀ {K : Int → Prop}, K x.2.1 → slAtW s ((i : Nat) : Int) 2 fun ad => ∃ y : Int, rd h' (Addr.add ad 0) = some (.int .i64 y) ∧ K y := fun hK => by
        refine (r.ext e).at_ (by omega) (by omega) fun ad y hy _ _ _ y0 _ => ⟨y.2.1, y0, ?_⟩
        rw [Int.toNat_natCast, hxi] at hy
        obtain rfl := Option.some.inj hy
        exact hK
      have ten : ∀ {K : Kl}, (∀ h' e, Ext h h' → e ≠ 0 → K .r [.int .i64 e] h') → ∀ b : Bool, j35_5_10 D I K gv s (.int .i64 ((i : Nat) : Int)) (.bool b) h' := fun hK b => by
        unfold j35_5_10
        rw [intK_int, boolW_bool]
        cases b with
        | true =>
          rw [cond_true]
          exact hK h' _ e (by decide)
        | false =>
          rw [cond_false]
          refine (r.ext e).at_ (by omega) (by omega) fun ad y hy _ iy _ _ y1 => ⟨y.1, y1, ?_⟩
          rw [Int.toNat_natCast, hxi] at hy
          obtain rfl := Option.some.inj hy
          refine sC _ _ _ _ _ _ _ (hg.ext e) ?_ iy fun h2 e2 => ⟨_, rfl, ?_⟩
          · exact hT _ _ e ht
          · rw [cond_ne]
            refine ⟨fun hne => ?_, fun hc => ?_⟩
            · exact hK h2 _ (e.trans e2) hne
            · rw [i64_id (by omega) (by omega)]
              refine ih hi1 h2 (e.trans e2) fun n z hn hz => ?_
              by_cases hni : n = i
              · subst hni
                rw [hxi] at hz
                obtain rfl := Option.some.inj hz
                exact chk_term hc
              · exact hx n z (by omega) hz
      have eight : ∀ {K : Kl}, (∀ h' e, Ext h h' → e ≠ 0 → K .r [.int .i64 e] h') → ∀ b : Bool, j35_5_8 D I K gv s (.int .i64 ((i : Nat) : Int)) (.bool b) h' := fun hK b => by
        unfold j35_5_8
        rw [intK_int, boolW_bool]
        cases b with
        | true =>
          rw [cond_true]
          exact hK h' _ e (by decide)
        | false =>
          rw [cond_false, cond_dec]
          refine ⟨fun hgt => rdv ?_, fun _ => ten hK false⟩
          rw [i64_id (by omega) (by omega)]
          refine (r.ext e).at_ (by omega) (by omega) fun ad y hy _ _ _ y0 _ => ⟨y.2.1, y0, ten hK _⟩
      have out : ∀ h' e, Ext h h' → e ≠ 0 → intK .i64 (nth [.int .i64 e] 0) fun x => k (.int .i64 x) h' := fun h' e e1 hne => by
        rw [nth0, intK_int]; exact hbad h' e e1 hne
      refine rdv ?_
      rw [cond_not, cond_dec]
      refine ⟨fun _ => eight (fun h2 e2 ee hne => ?_) true, fun _ => rdv (eight (fun h2 e2 ee hne => ?_) _)⟩
      · exact out h2 e2 ee hne
      · exact out h2 e2 ee hne
    · dsimp only
      rw [xs_e]
      show cond true _ _
      rw [cond_true]
      refine hok h0 (fun x hxm => ?_) h' e
      obtain ⟨n, hn⟩ := List.getElem?_of_mem hxm
      exact hx n x (by have := (List.getElem?_eq_some_iff.mp hn).1; omega) hn
  exact key 0 (by omega) h1 e1 fun n x hn => by omega
def SpecApply (D : Orc) (f : Nat) (T : H → Prop) : Prop := ∀ gv s tv sg (xs : List Bd1) (t : List Int) h (k : Kv) kp, Sr h gv sg → T h → Bs h s xs → Ir h tv t → (∀ v h' e, Ext h h' → e ≠ 0 → k (.tuple #[v, .int .i64 e]) h') →
  (∀ v h', Ext h h' → chkSig sg = 0 → isTerm (S2 sg) t → Sub (S2 sg) (bW xs) → Buf h h' v (Z (app (bW xs) t)) → (app (bW xs) t).length ≤ 512 → k (.tuple #[v, .int .i64 0]) h') → D f [gv, s, tv] h k kp
theorem spec15 (hT : Stays T) (c : Cl15 D) (s4 : SpecCheck4 D 35 T) (sC : SpecCheck D 36 T) (sL : SpecLaid4 D 37) : SpecApply D 15 T := by
  intro gv s tv sg xs t h k kp hg ht r it hbad hok
  refine c _ _ _ _ _ _ ?_
  unfold F15
  refine s4 _ _ _ xs _ _ _ hg ht r (fun h1 e e1 hne => ⟨_, rfl, ?_⟩) fun hsg hxt h1 e1 => ⟨_, rfl, ?_⟩
  · rw [cond_ne]
    exact ⟨fun _ => hbad _ h1 e e1 hne, fun h0 => absurd h0 hne⟩
  · rw [cond_ne]
    refine ⟨fun h => absurd rfl h, fun _ => ?_⟩
    refine sC _ _ _ _ _ _ _ (hg.ext e1) (hT _ _ e1 ht) (it.ext e1) fun h2 e2 => ⟨_, rfl, ?_⟩
    have e12 := e1.trans e2
    rw [cond_ne]
    refine ⟨fun hne => hbad _ h2 _ e12 hne, fun hc => ?_⟩
    have htt := chk_term hc
    refine sL _ _ xs t 512 _ _ _ (r.ext e12) (it.ext e12) (by decide) (fun h3 e3 => ⟨_, _, rfl, ?_⟩) fun v h3 e3 b3 hl3 => ⟨_, _, rfl, ?_⟩
    · rw [Bool.not_false, cond_true]
      exact hbad _ h3 _ (e12.trans e3) (by decide)
    · rw [Bool.not_true, cond_false]
      rw [bW_app htt] at b3 hl3
      exact hok v h3 (e12.trans e3) hsg htt (bW_sub hxt) (b3.mono e12) hl3
end Go.Proofs.YtnlhnlmnlfmojaaGreatDoor.Am

namespace Go.Proofs.YtnlhnlmnlfmojaaGreatDoor.Am
open Go Go.Proofs Sys Go.Lib
set_option linter.unusedVariables false
set_option linter.unusedSimpArgs false
set_option maxRecDepth 100000
variable {D : Orc} {T : H → Prop}

theorem ir_of {h : H} {v : Value} {sig : List Sy} {l : List Int} (r : Row h v (Z l)) (hl : l.length ≤ 2000) (ht : isTerm (S2 sig) l) (hs : sig.length < 2 ^ 40) : Ir h v l := ⟨r, by omega, fun x hx => by
  have := scan_codes _ _ 1 ht x hx
  rw [S2_len] at this
  unfold inI; omega⟩
def SpecInside (D : Orc) (f : Nat) (T : H → Prop) : Prop := ∀ va S ev tv (t : List Int) (pick : Int) h (k : Kv) kp, Ss h va S → T h → Sr h ev (extV S.sig) → Ir h tv t → t.length ≤ 512 → chkTerm (extV S.sig) t = 0 → 0 ≤ t.headD 0 → inI pick →
  (∀ v h', Ext h h' → k (.tuple #[v, .bool false]) h') →
  (∀ w h' t', Ext h h' → Ir h' w t' → t'.length ≤ 512 → chkTerm (extV S.sig) t' = 0 → (∀ c l u, t = c :: u → Inst (S2 (extV S.sig)) (defL S) l u → ∃ u', t' = c :: u' ∧ Inst (S2 (extV S.sig)) (defL S) l u') → k (.tuple #[w, .bool true]) h') → D f [va, ev, tv, .int .i64 pick] h k kp
theorem spec17 (hT : Stays T) (c : Cl17 D) (cW : Cl14 D) (sK : SpecKids D 38 T) (sU : SpecSub D 39 T) (sA : SpecAll D 40 T) (sD : SpecDo D 41 T) (sR : SpecReplace D 42 T) : SpecInside D 17 T := by
  intro va S ev tv t pick h k kp hS ht he it htl hc h0 hpk hbad hok
  obtain ⟨sa, ra, rfl, hsa, hra⟩ := hS.ex
  refine c _ _ _ _ _ _ _ ?_
  unfold F17
  rw [intK_int, aggW_agg]
  refine (Hp.nil_ h).new_ fun p1 h1 hp1 o1 => ?_
  have o1 : Hp h h1 [cellR p1 [sa, ra]] := o1
  refine sK _ _ (extV S.sig) t _ _ _ (he.ext o1.ext) (hT _ _ o1.ext ht) (it.ext o1.ext) hc h0 fun kv ks h2 e2 rk hkl hks => ⟨_, _, rfl, ?_⟩
  have o2 := o1.later e2
  have b2 := o2.cell (i := 0) rfl
  rw [rk.len, Z_len]
  show j17__3 D k kp ev tv (.int .i64 pick) (Pt p1) kv (.bool (((ks.length : Nat) : Int) == 0)) h2
  unfold j17__3
  rw [intK_int, boolW_bool, cond_eq]
  refine ⟨fun _ => hbad _ h2 o2.ext, fun hne => ?_⟩
  rw [rk.len, Z_len]
  refine spec14 cW hpk (by omega) (by omega) fun i hi => ⟨_, rfl, ?_⟩
  refine rk.at_ (by omega) (by rw [Z_len]; omega) fun ad v hv hrd => ?_
  rw [Int.toNat_natCast] at hv
  unfold Z at hv
  rw [List.getElem?_map, List.getElem?_eq_getElem hi] at hv
  obtain ⟨n, hn, hn1, hn2⟩ := hks _ (List.getElem_mem hi)
  rw [hn] at hv
  obtain rfl : Value.int .i64 ((n : Nat) : Int) = v := by simpa using hv
  refine ⟨_, hrd, ?_⟩
  have hp0 : placeE (extV S.sig) t ((n : Nat) : Int) = 0 := by
    unfold placeE
    rw [if_neg (by rw [hc]; simp), if_neg (by omega)]
  obtain ⟨u, r, hur, hu⟩ := scan_at _ t 1 n (chk_term hc) hn2
  have hul := congrArg List.length hur
  simp only [List.length_drop, List.length_append] at hul
  have hsg := chk_sig hc
  have hsl := he.len
  refine sU _ _ (extV S.sig) t _ _ _ _ (by unfold inI; omega) (he.ext o2.ext) (hT _ _ o2.ext ht) (it.ext o2.ext) fun uv h3 e3 b3 => ⟨_, _, rfl, ?_⟩
  have hsub : subV (extV S.sig) t ((n : Nat) : Int) = u := by
    unfold subV
    rw [if_pos hp0, Int.toNat_natCast, subT_of hur hu]
  rw [hsub] at b3
  have o3 := o2.later e3
  have iu : Ir h3 uv u := ir_of b3.row (by omega) hu hsl
  rw [ptrW_ptr]
  refine ⟨sa, ra, rd2 (o3.cell (i := 0) rfl), ?_⟩
  refine sA _ S _ u _ _ _ (hS.ext o3.ext) (hT _ _ o3.ext ht) iu (by omega) fun rv rs h4 e4 rr hrl hrs => ⟨_, rfl, ?_⟩
  have o4 := o3.later e4
  rw [rr.len, rxR_len, cond_eq]
  refine ⟨fun _ => hbad _ h4 o4.ext, fun hne4 => ?_⟩
  rw [ptrW_ptr]
  refine ⟨sa, ra, rd2 (o4.cell (i := 0) rfl), by decide, ?_⟩
  rw [rr.len, rxR_len]
  have h7 := hpk
  unfold inI at h7
  have hdiv : -9223372036854775808 ≤ pick.tdiv 7 ∧ pick.tdiv 7 ≤ 9223372036854775807 := by
    by_cases hs : 0 ≤ pick
    · rw [Int.tdiv_eq_ediv_of_nonneg hs]; omega
    · have e : pick = -(-pick) := by omega
      rw [e, Int.neg_tdiv, Int.tdiv_eq_ediv_of_nonneg (by omega)]; omega
  rw [i64_id hdiv.1 hdiv.2]
  refine spec14 cW (by unfold inI; omega) (by omega) (by omega) fun j hj => ⟨_, rfl, ?_⟩
  rw [ptrW_ptr]
  refine ⟨rd2 (o4.cell (i := 0) rfl), ?_⟩
  refine rr.at_ (by omega) (by rw [rxR_len]; omega) fun ad v hv hrd _ => ?_
  rw [Int.toNat_natCast] at hv
  unfold rxR at hv
  rw [List.getElem?_map, List.getElem?_eq_getElem hj] at hv
  obtain rfl : [Value.int .i64 rs[j].1, Value.int .i64 rs[j].2] = v := by simpa using hv
  obtain ⟨r1, r2⟩ := hrs _ (List.getElem_mem hj)
  refine ⟨_, _, hrd, ?_⟩
  refine sD _ S _ u _ _ _ _ _ (hS.ext o4.ext) (hT _ _ o4.ext ht) (iu.ext e4) (by omega) r1 r2 (fun h5 e e5 hne5 => ⟨_, _, rfl, ?_⟩) fun vv h5 a b w x c0 e5 iv hvl hue hr hcd hcw hxt => ⟨_, _, rfl, ?_⟩
  · rw [cond_ne]
    exact ⟨fun _ => hbad _ h5 (o4.ext.trans e5), fun h0 => absurd h0 hne5⟩
  · rw [cond_ne]
    refine ⟨fun h => absurd rfl h, fun _ => ?_⟩
    have o5 := o4.later e5
    refine sR _ _ _ (extV S.sig) t _ n _ _ _ (he.ext o5.ext) (hT _ _ o5.ext ht) (it.ext o5.ext) iv (by omega) hvl (fun w h6 e e6 hne6 => ⟨_, _, rfl, ?_⟩) fun wv h6 a2 u2 b2 e6 _ hcv hte hal hu2 iw hwl => ⟨_, _, rfl, ?_⟩
    · have : (e == 0) = false := by simpa using hne6
      rw [this]
      exact hbad _ h6 (o5.ext.trans e6)
    · show k (.tuple #[wv, .bool ((0 : Int) == 0)]) h6
      have hg1 := (right_ok hr).1
      have hd2 : t.drop n = u2 ++ b2 := by rw [hte, ← hal, List.drop_left]
      rw [hur] at hd2
      obtain ⟨rfl, rfl⟩ := term_prefix hu hu2 hd2
      refine hok wv h6 _ (o5.ext.trans e6) iw hwl (chk_of hsg ?_) fun c1 l u1 htc hI => ?_
      · have h1 := chk_term hc
        rw [hte] at h1
        exact scan_swap hu (chk_term hcv) a2 1 r h1
      · cases a2 with
        | nil => simp at hal; omega
        | cons y a2 =>
          rw [hte, List.cons_append] at htc
          obtain ⟨rfl, htc2⟩ := List.cons.inj htc
          refine ⟨_, rfl, ?_⟩
          have hstep := inst_step hI (x := x) (b := b ++ r) (a := a2 ++ a) hcd (scan_ext hg1 _ 1 hcw) (scan_ext hg1 _ 1 hxt) (by rw [← htc2, hue]; simp [List.append_assoc])
          have e : a2 ++ a ++ (x ++ (b ++ r)) = a2 ++ ((a ++ (x ++ b)) ++ r) := by simp [List.append_assoc]
          rw [e] at hstep
          exact hstep
theorem lawFollow (hT : Stays T) (c : Cl5 D) (cW : Cl14 D) (s6 : ∀ h (k : Kv) kp, T h → (∀ h', Ext h h' → k (.bool true) h') → D 6 [] h k kp) (s9 : SpecOf D 9 T) (s13 : SpecExt D 13 T) (s15 : SpecApply D 15 T)
    (s16 : SpecMatches D 16) (s7 : SpecEdge D 7 T) (s17 : SpecInside D 17 T)
    {va bv qv : Value} {S : Sm} {P Q : Int} {xs : List Bd1} {qs : List Int} {h : H} {k : Kv} {kp : Kp} (hS : Ss h va S) (ht : T h) (hP : inI P) (hB : Bs h bv xs) (hQ : Ir h qv qs) (hk : ∀ h', Ext h h' → k (.bool true) h') :
    D 5 [va, .agg #[.int .i64 P, .int .i64 Q, bv, qv]] h k kp := by
  obtain ⟨sa, ra, rfl, hsa, hra⟩ := hS.ex
  refine c _ _ _ _ _ ?_
  unfold F5
  rw [aggW_agg]
  refine (Hp.nil_ h).new_ fun p1 h1 hp1 o1 => ?_
  rw [aggW_agg]
  refine o1.new_ fun p4 h2 hp2 o2 => ?_
  have o2 : Hp h h2 [cellR p4 [.int .i64 P, .int .i64 Q, bv, qv], cellR p1 [sa, ra]] := o2
  refine s6 _ _ _ (hT _ _ o2.ext ht) fun h3 e3 => ⟨_, rfl, ?_⟩
  have o3 := o2.later e3
  rw [ptrW_ptr]
  refine ⟨sa, ra, rd2 (o3.cell (i := 1) rfl), ?_⟩
  refine s9 _ S _ _ _ (hS.ext o3.ext) (hT _ _ o3.ext ht) fun lv ps h4 o4 hps => ⟨_, _, rfl, ?_⟩
  have rl : Rr h4 lv (pairsL S) := of_rr (L := []) (by rw [List.append_nil]; exact o4) hps
  have o5 := o3.later o4.ext
  have stop : ∀ b : Bool, b = true → j5__4 D k kp (Pt p1) (Pt p4) (.bool true) lv (.bool b) h4 := fun b hb => by
    subst hb
    unfold j5__4
    rw [boolW_bool, boolW_bool, cond_true]
    exact hk h4 o5.ext
  rw [Bool.not_not, cond_true, cond_not, cond_ne]
  refine ⟨fun _ => stop true rfl, fun _ => ?_⟩
  rw [rl.len_]
  by_cases hl0 : (pairsL S).length = 0
  · refine stop _ ?_
    rw [hl0]; rfl
  have hlb : (((pairsL S).length : Int) == 0) = false := by simpa using hl0
  rw [hlb]
  unfold j5__4
  rw [boolW_bool, boolW_bool, cond_false]
  have hll := rl.len
  refine ldj (o5.cell (i := 1) rfl) rfl ?_
  refine s13 _ S.sig _ _ _ (hsa.ext o5.ext) (hT _ _ o5.ext ht) fun ev h5 e45 be => ⟨_, _, rfl, ?_⟩
  have e5 := e45
  have o6 := o5.later e5
  have he := ext_sr be.row
  refine ldjI (o6.cell (i := 0) rfl) rfl ?_
  rw [(rl.ext e5).len_]
  refine spec14 cW hP (by omega) (by omega) fun i hi => ⟨_, rfl, ?_⟩
  refine (rl.ext e5).at_ (by omega) (by omega) fun ad plv prv p hp hrd _ _ ipl ipr => ⟨plv, prv, hrd, ?_⟩
  rw [Int.toNat_natCast] at hp
  refine (Hp.nil_ h5).two (sl_one' ipl.row) (sl_one' ipr.row) rfl fun p35 h6 hp6 o7 => ?_
  have o7 : Hp h5 h6 [cellR p35 [plv, prv]] := o7
  have e56 := o7.ext
  have o8 := o6.later e56
  have hpm := List.mem_of_getElem? hp
  have hr : rightS S = true := by
    have hpm2 := hpm
    unfold pairsL at hpm2
    split at hpm2
    · rename_i h0; exact right_sys h0
    · cases hpm2
  refine ldj (o8.cell (i := 0) rfl) rfl (ldj (o7.cell (i := 0) rfl) rfl ?_)
  refine s15 _ _ _ (extV S.sig) xs p.2 _ _ _ (he.ext e56) (hT _ _ o8.ext ht) (hB.ext o8.ext) (ipr.ext e56) (fun v h7 e e7 hne => ⟨_, _, rfl, ?_⟩) fun tv h7 e7 hsg hpt hsub b7 hl7 => ⟨_, _, rfl, ?_⟩
  · rw [cond_ne]
    exact ⟨fun _ => hk h7 (o8.ext.trans e7), fun h0 => absurd h0 hne⟩
  rw [cond_ne]
  refine ⟨fun h => absurd rfl h, fun _ => ?_⟩
  have o9 := o8.later e7
  have e57 := e56.trans e7
  obtain ⟨hmL, hmR⟩ := pairs_may hsg p hpm
  obtain ⟨c0, u0, hp2⟩ := List.exists_cons_of_ne_nil (isTerm_ne hpt)
  have hc0 : (S.sig.length : Int) ≤ c0 := by
    have := (mayB_ok hmR).2.2
    rw [hp2] at this; exact this
  rw [hp2] at hpt
  obtain ⟨t0, ht0, hI0⟩ := inst_pair hpt (by omega) hsub
  have ht7 : isTerm (S2 (extV S.sig)) (app (bW xs) p.2) := app_term hsub (by rw [hp2]; exact hpt)
  have it7 : Ir h7 tv (app (bW xs) p.2) := ir_of b7.row (by omega) ht7 he.len
  have hql := hQ.len
  intro I hI
  have key := down_ind (P := fun i => ∀ (tv : Value) (t : List Int) (h' : H), i ≤ qs.length → Ext h7 h' → Ir h' tv t → t.length ≤ 512 → chkTerm (extV S.sig) t = 0 → (∃ u, t = c0 :: u ∧ Inst (S2 (extV S.sig)) (defL S) u0 u) → I [Pt p1, Pt p4, lv, ev, Pt p35, tv, .int .i64 ((i : Nat) : Int)] h') 8 fun i hi ih tv t h' hiq e it htl hct hin => by
    refine hI _ _ _ _ _ _ _ _ ?_
    unfold round5_11
    have o10 := o9.later e
    have e5 := e57.trans e
    rw [intK_int]
    refine ldj (o10.cell (i := 0) rfl) rfl ?_
    rw [(hQ.ext o10.ext).len_, cond_dec]
    refine ⟨fun _ => ?_, fun hgt => absurd (by omega) hgt⟩
    rw [cond_dec]
    refine ⟨fun hi8 => ?_, fun _ => ?_⟩
    rotate_left
    · dsimp only
      rw [xs_e]
      show cond true _ _
      rw [cond_true]
      exact hk h' o10.ext
    intro I2 hI2
    have key2 := down_ind (P := fun j => ∀ h2, Ext h' h2 → I2 [Pt p1, Pt p4, lv, ev, Pt p35, tv, .int .i64 ((i : Nat) : Int), .int .i64 ((j : Nat) : Int)] h2) (pairsL S).length fun j hj ih2 h2 e2 => by
      refine hI2 _ _ _ _ _ _ _ _ _ ?_
      unfold round5_14
      have o11 := o10.later e2
      have e52 := e5.trans e2
      have e42 := e45.trans e52
      rw [intK_int, intK_int, (rl.ext e42).len_, cond_dec]
      refine ⟨fun hlt => ?_, fun hge => ?_⟩
      · have hj1 : j < (pairsL S).length := by omega
        refine (rl.ext e42).at_ (by omega) (by omega) fun ad qlv qrv q hq hrd h0 _ iql iqr => ⟨qlv, h0, ?_⟩
        rw [Int.toNat_natCast] at hq
        have hqm := List.mem_of_getElem? hq
        obtain ⟨hqL, _⟩ := pairs_may hsg q hqm
        have go : ∀ {K : Kl} (h3 : H), Ext h' h3 → j5_14_15 D I2 K (Pt p1) (Pt p4) lv ev (Pt p35) tv (.int .i64 ((i : Nat) : Int)) (.int .i64 ((j : Nat) : Int)) h3 := fun h3 e3 => by
          unfold j5_14_15
          rw [intK_int, intK_int, i64_id (by omega) (by omega)]
          exact ih2 hj1 h3 e3
        refine s16 _ _ _ (extV S.sig) q.1 t _ _ _ (he.ext e52) (ar_of hsg) iql (it.ext e2) (chk_term (mayB_ok hqL).1) (chk_term hct) (fun h3 e3 => ⟨_, rfl, ?_⟩) fun hm h3 e3 => ⟨_, rfl, ?_⟩
        · rw [cond_false]
          exact go h3 (e2.trans e3)
        · rw [cond_true]
          have o12 := o11.later e3
          have e53 := e52.trans e3
          rw [ptrW_ptr]
          refine ⟨sa, ra, rd2 (o12.cell (i := 1) rfl), ?_⟩
          rw [ptrW_ptr]
          refine ⟨plv, prv, rd2 ((e7.trans (e.trans (e2.trans e3))) _ _ (o7.cell (i := 0) rfl)), ?_⟩
          refine (rl.ext (e42.trans e3)).at_ (by omega) (by omega) fun ad qlv' qrv' q' hq' hrd' _ _ iql' iqr' => ⟨qlv', qrv', hrd', ?_⟩
          rw [Int.toNat_natCast, hq] at hq'
          obtain rfl := Option.some.inj hq'
          refine s7 _ S _ _ _ _ p.2 q.1 _ _ _ (sl_one' ipl.row) (sl_one' iqr'.row) (hS.ext o12.ext) (hT _ _ o12.ext ht) (ipr.ext e53) iql' fun h4' e4' => ⟨_, rfl, ?_⟩
          obtain ⟨τ, hτ, hmt⟩ := hm
          obtain ⟨u, rfl, hIu⟩ := hin
          have hedge : edgeB S p.2 q.1 = true := follow_edge hr hmR hqL (t := u) (by rw [hp2]; exact hIu) hτ (by rw [hmt, hp2]; rfl)
          rw [hedge, Bool.not_true, cond_false]
          exact go h4' (e2.trans (e3.trans e4'))
      · dsimp only
        rw [xs_e]
        show cond true _ _
        rw [cond_true, nth6, intK_int, nth1]
        refine ldj (o11.cell (i := 0) rfl) rfl ?_
        rw [(hQ.ext o11.ext).len_, cond_eq]
        refine ⟨fun _ => ?_, fun hne => ?_⟩
        · rw [xs_e]
          show cond true _ _
          rw [cond_true]
          exact hk h2 o11.ext
        · have hiq1 : i < qs.length := by omega
          rw [nth0, nth3, nth5, nth2, nth4, ptrW_ptr]
          refine ⟨sa, ra, rd2 (o11.cell (i := 1) rfl), ldj (o11.cell (i := 0) rfl) rfl ?_⟩
          refine (hQ.ext o11.ext).at_ (by omega) (by omega) fun ad x hx hxi hrd => ⟨x, hrd, ?_⟩
          have hh0 : 0 ≤ t.headD 0 := by
            obtain ⟨u, rfl, _⟩ := hin
            show 0 ≤ c0
            omega
          refine s17 _ S _ _ t x _ _ _ (hS.ext o11.ext) (hT _ _ o11.ext ht) (he.ext e52) (it.ext e2) htl hct hh0 hxi (fun v h3 e3 => ⟨_, _, rfl, ?_⟩) fun w h3 t' e3 iw hwl hcw hnx => ⟨_, _, rfl, ?_⟩
          · rw [Bool.not_false, cond_true]
            rw [xs_r, nth0, boolW_bool]
            exact hk h3 (o11.ext.trans e3)
          · rw [Bool.not_true, cond_false, i64_id (by omega) (by omega)]
            obtain ⟨u, rfl, hIu⟩ := hin
            exact ih (by omega) w t' h3 (by omega) (e.trans (e2.trans e3)) iw hwl hcw (hnx c0 u0 u rfl hIu)
    exact key2 0 (by omega) h' (Ext.refl _)
  exact key 0 (by omega) tv _ h7 (by omega) (Ext.refl _) it7 hl7 (chk_of hsg ht7) ⟨t0, by rw [hp2]; exact ht0, hI0⟩
end Go.Proofs.YtnlhnlmnlfmojaaGreatDoor.Am
