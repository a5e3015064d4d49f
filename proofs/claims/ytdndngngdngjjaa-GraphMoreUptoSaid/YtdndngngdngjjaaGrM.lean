/-
  Packed: The law of one edge more.
-/
import Derived.Test.YtdndngngdngjjaaGrR
namespace Go.Proofs.Ytdndngngdngjjaa.Am
open Go Go.Proofs Gr
set_option linter.unusedVariables false
set_option linter.unusedSimpArgs false
set_option maxRecDepth 100000
variable {D : Orc}

noncomputable def goB (g : G) (u w i k : Nat) : Bool := wayB g g.length i k || ((decide (i = u) || wayB g g.length i u) && (decide (w = k) || wayB g g.length w k))
theorem cond_nb {a b : Nat} {A B : Prop} : cond (!((a : Int) == (b : Int))) A B ↔ (a ≠ b → A) ∧ (a = b → B) := by
  by_cases h : a = b
  · subst h; simp
  · have : ((a : Int) == (b : Int)) = false := by simp; omega
    rw [this]; simp [h]
theorem go_rule {g : G} {h0 h : H} {v : Value} {V : Nat → Value} (o : Hp h0 h (bufR v (arr g.length V) :: tab g.length g.length (wayB g g.length) V)) {i k u w : Nat} (hi : i < g.length) (hk : k < g.length) (hu : u < g.length) (hw : w < g.length) {J : Bool → Prop} (hJ : J (goB g u w i k)) :
    slAtW v (i : Int) 1 (fun ad82 => ∃ v83 : Value, rd h ad82 = some v83 ∧ slAtW v83 (k : Int) 1 (fun ad84 => ∃ t85 : Bool, rd h ad84 = some (Value.bool t85) ∧ cond (!t85) (
      cond (!((i : Int) == (u : Int))) (
      slAtW v (i : Int) 1 (fun ad86 => ∃ v87 : Value, rd h ad86 = some v87 ∧ slAtW v87 (u : Int) 1 (fun ad88 => ∃ t89 : Bool, rd h ad88 = some (Value.bool t89) ∧ cond t89 (
      cond (!((w : Int) == (k : Int))) (
      slAtW v (w : Int) 1 (fun ad90 => ∃ v91 : Value, rd h ad90 = some v91 ∧ slAtW v91 (k : Int) 1 (fun ad92 => ∃ t93 : Bool, rd h ad92 = some (Value.bool t93) ∧ J t93))) (
      J true)) (
      J false)))) (
      cond (!((w : Int) == (k : Int))) (
      slAtW v (w : Int) 1 (fun ad139 => ∃ v140 : Value, rd h ad139 = some v140 ∧ slAtW v140 (k : Int) 1 (fun ad141 => ∃ t142 : Bool, rd h ad141 = some (Value.bool t142) ∧ J t142))) (
      J true))) (
      J true))) := by
  unfold goB at hJ
  refine tab_row o hi (tab_bit o hi hk ?_)
  cases h1 : wayB g g.length i k with
  | true =>
    rw [h1, Bool.true_or] at hJ
    rw [Bool.not_true, cond_false]; exact hJ
  | false =>
    rw [h1, Bool.false_or] at hJ
    rw [Bool.not_false, cond_true, cond_nb]
    refine ⟨fun hne => tab_row o hi (tab_bit o hi hu ?_), fun he => ?_⟩
    · rw [show decide (i = u) = false by simpa using hne, Bool.false_or] at hJ
      cases h2 : wayB g g.length i u with
      | false =>
        rw [h2, Bool.false_and] at hJ
        rw [cond_false]; exact hJ
      | true =>
        rw [h2, Bool.true_and] at hJ
        rw [cond_true, cond_nb]
        refine ⟨fun hne2 => tab_row o hw (tab_bit o hw hk ?_), fun he2 => ?_⟩
        · rw [show decide (w = k) = false by simpa using hne2, Bool.false_or] at hJ; exact hJ
        · rw [show decide (w = k) = true by simpa using he2, Bool.true_or] at hJ; exact hJ
    · rw [show decide (i = u) = true by simpa using he, Bool.true_or, Bool.true_and] at hJ
      rw [cond_nb]
      refine ⟨fun hne2 => tab_row o hw (tab_bit o hw hk ?_), fun he2 => ?_⟩
      · rw [show decide (w = k) = false by simpa using hne2, Bool.false_or] at hJ; exact hJ
      · rw [show decide (w = k) = true by simpa using he2, Bool.true_or] at hJ; exact hJ
theorem spec8 (c : Cl8 D) (sh : SpecShown D 9) (sC : SpecCopied D 10) (sP : SpecParts D 11) (sS : SpecSame D 13) (sH : SpecHome D 14) (sW : SpecWays D 15) (sE : SpecEdge D 16) {v : Value} {g : G} {x1 x2 : Int} {h : H} {k : Kv} {kp : Kp} (r : Rw h v g) (hn : g.length < 2 ^ 40) (hs : ∀ t ∈ g, t.length ≤ 1048576)
    (hk : ∀ h', k (.bool true) h') : D 8 [v, .int .i64 x1, .int .i64 x2] h k kp := by
  refine c _ _ _ _ _ _ ?_
  unfold F8
  rw [intK_int, intK_int]
  refine sh _ _ _ fun h1 e1 => ⟨true, rfl, ?_⟩
  have r1 := r.ext e1
  rw [Bool.not_true, cond_false, r1.len_]
  have out : j8__6 D k kp v (.int .i64 x1) (.int .i64 x2) (.bool true) (nZ g.length) (.bool true) h1 := by
    unfold j8__6
    rw [intK_int, intK_int, boolW_bool, intK_int, boolW_bool, cond_true]
    exact hk _
  rw [cond_not, cond_dec]
  refine ⟨fun _ => out, fun hle => ?_⟩
  rw [cond_not, cond_dec]
  refine ⟨fun _ => out, fun h10 => ?_⟩
  rw [cond_not, cond_dec]
  refine ⟨fun _ => out, fun h1n => ?_⟩
  rw [cond_not, cond_dec]
  refine ⟨fun _ => out, fun h20 => ?_⟩
  by_cases h2n : x2 ≥ ((g.length : Nat) : Int)
  · rw [decide_eq_true h2n]; exact out
  rw [decide_eq_false h2n]
  obtain ⟨u, rfl⟩ := Int.eq_ofNat_of_zero_le (show 0 ≤ x1 by omega)
  obtain ⟨w, rfl⟩ := Int.eq_ofNat_of_zero_le (show 0 ≤ x2 by omega)
  have hu : u < g.length := by omega
  have hw : w < g.length := by omega
  unfold j8__6
  rw [intK_int, intK_int, boolW_bool, intK_int, boolW_bool, cond_false]
  refine sP _ _ _ _ _ r1 hn fun a h3 pa => ⟨a, rfl, ?_⟩
  have r3 := r1.ext pa.ext_
  refine sW _ _ _ _ _ r3 hn fun wv h4 ⟨V, ow⟩ => ⟨wv, rfl, ?_⟩
  refine sC _ _ _ _ _ (r3.ext ow.ext) hn fun b h5 oc => ⟨b, rfl, ?_⟩
  obtain ⟨Q, hQ, oc⟩ := oc
  have oc : Hp h4 h5 (rowsL b Q []) := by
    unfold rowsL inZ
    rw [List.append_nil]; exact oc
  have hQl : Q.length = g.length := by rw [hQ, List.length_map]
  obtain ⟨t, ht⟩ : ∃ t, g[u]? = some t := ⟨_, List.getElem?_eq_getElem hu⟩
  have htok := r.ok t (List.mem_of_getElem? ht)
  have hqu : ∃ z, Q[u]? = some (z, t) := by
    rw [hQ, List.getElem?_map, Option.map_eq_some_iff] at ht
    obtain ⟨⟨z, l⟩, h1, h2⟩ := ht
    exact ⟨z, by rw [h1]; simp at h2; rw [h2]⟩
  obtain ⟨z, hz⟩ := hqu
  refine rowsL_app oc hz htok.1 fun z2 h6 o6 => ?_
  have hg' : (Q.set u (z2, t ++ [(w : Int)])).map (·.2) = g.set u (t ++ [(w : Int)]) := by
    rw [List.map_set, ← hQ]
  have oR := rowsL_ow o6
  rw [hg'] at oR
  have hgl : (g.set u (t ++ [(w : Int)])).length = g.length := List.length_set
  have hedge : ∀ x y, Gr.Edge (g.set u (t ++ [(w : Int)])) x y ↔ Gr.Edge g x y ∨ (x = u ∧ y = w) := fun x y => by
    unfold Gr.Edge
    rw [hgl, List.getD_eq_getElem?_getD, List.getD_eq_getElem?_getD, List.getElem?_set]
    by_cases hxu : u = x
    · subst hxu
      rw [if_pos rfl, if_pos hu, ht]
      simp only [Option.getD_some, List.mem_append, List.mem_singleton]
      constructor
      · rintro ⟨h1, h2, h3 | h3⟩
        · exact .inl ⟨h1, h2, h3⟩
        · exact .inr ⟨trivial, by omega⟩
      · rintro (⟨h1, h2, h3⟩ | ⟨_, h3⟩)
        · exact ⟨h1, h2, .inl h3⟩
        · exact ⟨hu, by omega, .inr (by rw [h3])⟩
    · rw [if_neg hxu]
      exact ⟨.inl, fun h => h.resolve_right fun h => hxu h.1.symm⟩
  have htl := hs t (List.mem_of_getElem? ht)
  have hok : okRows (g.set u (t ++ [(w : Int)])) := by
    intro l hl
    rcases List.mem_or_eq_of_mem_set hl with hl | rfl
    · exact r.ok l hl
    · refine ⟨by simp; omega, fun x hx => ?_⟩
      rcases List.mem_append.mp hx with hx | hx
      · exact htok.2 x hx
      · simp only [List.mem_singleton] at hx
        subst hx; unfold inI; omega
  have rR := oR.rw hok
  generalize g.set u (t ++ [(w : Int)]) = g' at *
  have hpl := partsOf_len2 g
  have hpl' := partsOf_len2 g'
  refine sP _ _ _ _ _ rR (by omega) fun b2 h7 pb => ⟨b2, rfl, ?_⟩
  have ra : Rw h7 a (pI g) := (((pa.rw_ hn).ext ow.ext).ext o6.ext).ext pb.ext_
  have rb : Rw h7 b2 (pI g') := pb.rw_ (by omega)
  have hal : (pI g).length < 2 ^ 40 := by unfold pI; rw [List.length_map]; omega
  have hbl : (pI g').length < 2 ^ 40 := by unfold pI; rw [List.length_map]; omega
  have ow7 := (ow.later o6.ext).later pb.ext_
  have r7 := ((r3.ext ow.ext).ext o6.ext).ext pb.ext_
  have hgo : ∀ i k, goB g u w i k = true ↔ Gr.Way g' i k := fun i k => by
    rw [more_way hedge]
    unfold goB
    simp only [Bool.or_eq_true, Bool.and_eq_true, decide_eq_true_eq, wayB_end]
  have htB : ∀ i k : Nat, togB g' i k = (goB g u w i k && goB g u w k i) := fun i k => by
    rw [Bool.eq_iff_iff, togB_iff, Bool.and_eq_true, hgo, hgo]; exact Iff.rfl
  have hsub : ∀ i k : Nat, togB g i k = true → togB g' i k = true := fun i k h => by
    rw [togB_iff] at h ⊢
    exact ⟨(more_way hedge).mpr (.inl h.1), (more_way hedge).mpr (.inl h.2)⟩
  intro I hI
  have key := down_ind (P := fun i => I [v, nZ u, nZ w, .bool true, nZ g.length, a, wv, b2, nZ i] h7) g.length fun i hi ih => by
    refine hI _ _ _ _ _ _ _ _ _ _ ?_
    unfold round8_13
    rw [intK_int, intK_int, boolW_bool, intK_int, intK_int, cond_dec]
    refine ⟨fun hlt => ?_, fun hge => ?_⟩
    · have hi' : i < g.length := by omega
      intro I2 hI2
      have key2 := down_ind (P := fun m => I2 [v, nZ u, nZ w, .bool true, nZ g.length, a, wv, b2, nZ i, nZ m] h7) g.length fun m hm ih2 => by
        refine hI2 _ _ _ _ _ _ _ _ _ _ _ ?_
        unfold round8_16
        rw [intK_int, intK_int, boolW_bool, intK_int, intK_int, intK_int, cond_dec]
        refine ⟨fun hlt => ?_, fun hge => ?_⟩
        · have hm' : m < g.length := by omega
          refine tog_rule sH ra hal (J := fun t h => j8_16_19 D I2 _ v (nZ u) (nZ w) (.bool true) (nZ g.length) a wv b2 (nZ i) (nZ m) (.bool t) h) ?_
          unfold j8_16_19
          rw [intK_int, intK_int, boolW_bool, intK_int, intK_int, intK_int, boolW_bool]
          refine tog_rule sH rb hbl (J := fun t h => j8_16_20 D I2 _ v (nZ u) (nZ w) (.bool true) (nZ g.length) a wv b2 (nZ i) (nZ m) (.bool (togB g i m)) (.bool t) h) ?_
          unfold j8_16_20
          rw [intK_int, intK_int, boolW_bool, intK_int, intK_int, intK_int, boolW_bool, boolW_bool]
          refine go_rule ow7 hi' hm' hu hw (J := fun t => j8_16_21 D I2 _ v (nZ u) (nZ w) (.bool true) (nZ g.length) a wv b2 (nZ i) (nZ m) (.bool (togB g i m)) (.bool (togB g' i m)) (.bool t) h7) ?_
          unfold j8_16_21
          rw [intK_int, intK_int, boolW_bool, intK_int, intK_int, intK_int, boolW_bool, boolW_bool, boolW_bool]
          refine go_rule ow7 hm' hi' hu hw (J := fun t => j8_16_22 D I2 _ v (nZ u) (nZ w) (.bool true) (nZ g.length) a wv b2 (nZ i) (nZ m) (.bool (togB g i m)) (.bool (togB g' i m)) (.bool (goB g u w i m)) (.bool t) h7) ?_
          unfold j8_16_22
          rw [intK_int, intK_int, boolW_bool, intK_int, intK_int, intK_int, boolW_bool, boolW_bool, boolW_bool, boolW_bool]
          have fin : I2 [v, nZ u, nZ w, .bool true, nZ g.length, a, wv, b2, nZ i, .int .i64 (IntKind.i64.wrap ((m : Int) + 1))] h7 := by
            rw [i64_id (by omega) (by omega)]
            exact ih2 hm'
          have h1 := htB i m
          have h2 := hsub i m
          generalize togB g i m = was at *
          generalize togB g' i m = is at *
          generalize goB g u w i m = g1 at *
          generalize goB g u w m i = g2 at *
          subst h1
          cases was <;> cases g1 <;> cases g2 <;> first | exact fin | exact absurd (h2 rfl) (by decide)
        · dsimp only
          rw [xs_e]
          show cond true _ _
          rw [cond_true]
          show intK _ (nZ u) _
          rw [intK_int]
          show intK _ (nZ w) _
          rw [intK_int]
          show boolW (.bool true) _
          rw [boolW_bool]
          show intK _ (nZ g.length) _
          rw [intK_int]
          show intK _ (nZ i) _
          rw [intK_int, i64_id (by omega) (by omega)]
          exact ih hi'
      exact key2 0 (by omega)
    · dsimp only
      rw [xs_e]
      show cond true _ _
      rw [cond_true]
      show intK _ (nZ u) _
      rw [intK_int]
      show intK _ (nZ w) _
      rw [intK_int]
      show boolW (.bool true) _
      rw [boolW_bool, cond_true]
      refine sE _ _ _ _ _ _ _ _ r7 ht hn ⟨_, rfl, ?_⟩
      by_cases hmem : (w : Int) ∈ t
      · rw [decide_eq_true hmem, Bool.not_true, Bool.not_false, cond_true]
        have heq : partsOf g' = partsOf g := by
          refine partsOf_congr hgl fun i k _ _ => ?_
          have hsame : ∀ x y, Gr.Edge g' x y ↔ Gr.Edge g x y := fun x y => by
            rw [hedge]
            refine ⟨fun h => h.elim id ?_, .inl⟩
            rintro ⟨rfl, rfl⟩
            refine ⟨hu, hw, ?_⟩
            rw [List.getD_eq_getElem?_getD, ht]
            exact hmem
          unfold Tog
          constructor
          · exact fun h => ⟨way_ind (fun x y e => (hsame x y).mp e) h.1, way_ind (fun x y e => (hsame x y).mp e) h.2⟩
          · exact fun h => ⟨way_ind (fun x y e => (hsame x y).mpr e) h.1, way_ind (fun x y e => (hsame x y).mpr e) h.2⟩
        refine sS _ _ _ _ _ _ _ ra rb hal ⟨true, congrArg Value.bool (by unfold pI; rw [heq]; simp), ?_⟩
        exact hk _
      · rw [decide_eq_false hmem, Bool.not_false, Bool.not_true, cond_false]
        exact hk _
  exact key 0 (by omega)
end Go.Proofs.Ytdndngngdngjjaa.Am
