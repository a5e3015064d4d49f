/-
  Packed: The law of nodes numbered otherwise.
-/
import Derived.Test.YtdndngngdngjjaaGrN
namespace Go.Proofs.Ytdndngngdngjjaa.Am
open Go Go.Proofs Gr
set_option linter.unusedVariables false
set_option linter.unusedSimpArgs false
set_option maxRecDepth 100000
variable {D : Orc}

noncomputable def togB (g : G) (x y : Int) : Bool := decide (0 ≤ homeI (pI g) x 0 ∧ homeI (pI g) x 0 = homeI (pI g) y 0)
theorem togB_iff {g : G} {a b : Nat} : togB g a b = true ↔ Tog g a b := by unfold togB; rw [decide_eq_true_eq, home_nat]
theorem tog_rule (sH : SpecHome D 14) {a : Value} {g : G} {h : H} (ra : Rw h a (pI g)) (hal : (pI g).length < 2 ^ 40) {x y : Int} {J : Bool → H → Prop} (hJ : J (togB g x y) h) {kp : Kp} :
    D 14 [a, .int .i64 x] h (fun v94 h95 => ∃ x96 : Int, v94 = (Value.int IntKind.i64 x96) ∧ cond (decide (x96 ≥ (0 : Int))) (
      D 14 [a, .int .i64 x] h95 (fun v97 h98 => ∃ x99 : Int, v97 = (Value.int IntKind.i64 x99) ∧ D 14 [a, .int .i64 y] h98 (fun v100 h101 => ∃ x102 : Int, v100 = (Value.int IntKind.i64 x102) ∧ J (x99 == x102) h101) kp) kp) (
      J false h95)) kp := by
  refine sH _ _ _ _ _ _ ra hal ⟨_, rfl, ?_⟩
  unfold togB at hJ
  rw [cond_dec]
  refine ⟨fun h0 => sH _ _ _ _ _ _ ra hal ⟨_, rfl, sH _ _ _ _ _ _ ra hal ⟨_, rfl, ?_⟩⟩, fun hneg => ?_⟩
  · have : decide (0 ≤ homeI (pI g) x 0 ∧ homeI (pI g) x 0 = homeI (pI g) y 0) = (homeI (pI g) x 0 == homeI (pI g) y 0) := by
      rw [Bool.eq_iff_iff, decide_eq_true_eq, beq_iff_eq]
      exact ⟨fun h => h.2, fun h => ⟨h0, h⟩⟩
    rw [this] at hJ; exact hJ
  · have : decide (0 ≤ homeI (pI g) x 0 ∧ homeI (pI g) x 0 = homeI (pI g) y 0) = false := by
      rw [decide_eq_false_iff_not]
      exact fun h => hneg h.1
    rw [this] at hJ; exact hJ
theorem tmodN (a b : Nat) : Int.tmod (a : Int) (b : Int) = ((a % b : Nat) : Int) := rfl
def phiR (n B : Nat) (e : Nat × Int) : Option (Nat × Int) := if 0 ≤ e.2 ∧ e.2 < n then some ((e.1 + B) % n, (((e.2.toNat + B) % n : Nat) : Int)) else none
theorem rot_inj {n B x y : Nat} (hB : B < n) (hx : x < n) (hy : y < n) (h : (x + B) % n = (y + B) % n) : x = y := by
  have e : ∀ z, z < n → (z + B) % n = if z + B < n then z + B else z + B - n := fun z hz => by
    split
    · rename_i h; exact Nat.mod_eq_of_lt h
    · rename_i h
      rw [Nat.mod_eq_sub_mod (by omega), Nat.mod_eq_of_lt (by omega)]
  rw [e x hx, e y hy] at h
  split at h <;> split at h <;> omega
theorem rot_onto {n B y : Nat} (hB : B < n) (hy : y < n) : ∃ x, x < n ∧ (x + B) % n = y := by
  by_cases h : B ≤ y
  · exact ⟨y - B, by omega, by rw [show y - B + B = y by omega]; exact Nat.mod_eq_of_lt hy⟩
  · refine ⟨y + n - B, by omega, ?_⟩
    rw [show y + n - B + B = y + n by omega, Nat.add_mod_right]; exact Nat.mod_eq_of_lt hy
theorem spec6 (c : Cl6 D) (sh : SpecShown D 9) (sP : SpecParts D 11) (sH : SpecHome D 14) {v : Value} {g : G} {x0 : Int} {h : H} {k : Kv} {kp : Kp} (r : Rw h v g) (hn : g.length < 2 ^ 40) (hs : ∀ t ∈ g, t.length ≤ 1048576) (hx0 : inI x0)
    (hk : ∀ h', k (.bool true) h') : D 6 [v, .int .i64 x0] h k kp := by
  unfold inI at hx0
  refine c _ _ _ _ _ ?_
  unfold F6
  rw [intK_int]
  refine sh _ _ _ fun h1 e1 => ⟨true, rfl, ?_⟩
  have r1 := r.ext e1
  rw [Bool.not_true, cond_false, r1.len_, cond_not, cond_dec]
  refine ⟨fun _ => ?_, fun hle => ?_⟩
  · unfold j6__6
    rw [intK_int, boolW_bool, intK_int, boolW_bool, cond_true]
    exact hk _
  unfold j6__6
  rw [intK_int, boolW_bool, intK_int, boolW_bool, cond_eq]
  refine ⟨fun _ => hk _, fun hne0 => ?_⟩
  have hpos : 0 < g.length := by omega
  have main : ∀ B0 : Nat, B0 < 2 ^ 63 → j6__9 D k kp v (nZ B0) (.bool true) (nZ g.length) h1 := by
    intro B0 hB0
    unfold j6__9
    rw [intK_int, boolW_bool, intK_int]
    refine ⟨by omega, (Hp.nil_ h1).mkS (by omega) (by decide) fun b h2 f2 o2 => ?_⟩
    rw [tmodN]
    generalize hB : B0 % g.length = B
    have hBn : B < g.length := by rw [← hB]; exact Nat.mod_lt _ hpos
    obtain ⟨Q0, hQ0, o2⟩ := rows_new (phiR g.length B) o2
    generalize (Value.slice (some ⟨b, 0, none⟩) g.length g.length) = w at o2
    have hrot : ∀ x, x < g.length → (x + B) % g.length < g.length := fun x _ => Nat.mod_lt _ hpos
    have hwr : ∀ x : Nat, x < g.length → Int.tmod (IntKind.i64.wrap ((x : Int) + (B : Int))) ((g.length : Nat) : Int) = (((x + B) % g.length : Nat) : Int) := fun x hx => by
      rw [i64_id (by omega) (by omega)]
      exact tmodN (x + B) g.length
    intro I hI
    have key := down_ind (P := fun i => ∀ (Q : List (Value × List Int)) (h5 : H), Rows (phiR g.length B) (edgesAt' g i 0) g.length Q → Hp h1 h5 (rowsL w Q []) → I [v, nZ B, .bool true, nZ g.length, w, nZ i] h5) g.length fun i hi ih Q h5 hQ o => by
      refine hI _ _ _ _ _ _ _ ?_
      unfold round6_12
      have r5 := r1.ext o.ext
      rw [intK_int, boolW_bool, intK_int, intK_int, cond_dec]
      refine ⟨fun hlt => ?_, fun hge => ?_⟩
      · have hi' : i < g.length := by omega
        obtain ⟨t, ht⟩ : ∃ t, g[i]? = some t := ⟨_, List.getElem?_eq_getElem hi'⟩
        have hgd : g.getD i [] = t := by rw [List.getD_eq_getElem?_getD, ht]; rfl
        have htl := hs t (List.mem_of_getElem? ht)
        intro I2 hI2
        have key2 := down_ind (P := fun m => ∀ (Q : List (Value × List Int)) (h6 : H), Rows (phiR g.length B) (edgesAt' g i m) g.length Q → Hp h1 h6 (rowsL w Q []) → I2 [v, nZ B, .bool true, nZ g.length, w, nZ i, nZ m] h6) t.length fun m hm ih2 Q h6 hQ o6 => by
          refine hI2 _ _ _ _ _ _ _ _ ?_
          unfold round6_15
          rw [intK_int, boolW_bool, intK_int, intK_int, intK_int]
          have r6 := r1.ext o6.ext
          have at3 : ∀ {K : Addr → Prop}, (∀ ad u, rd h6 ad = some u → Ir h6 u t → K ad) → slAtW v (i : Int) 1 K := fun hk => by
            refine r6.at_ (by omega) (by omega) fun ad u t' ht' hrd hix => ?_
            rw [Int.toNat_natCast, ht] at ht'
            obtain rfl := Option.some.inj ht'
            exact hk ad u hrd hix
          refine at3 fun ad u hrd hix => ⟨u, hrd, ?_⟩
          rw [hix.len_, cond_dec]
          refine ⟨fun hlt2 => ?_, fun hge2 => ?_⟩
          · have hm' : m < t.length := by omega
            refine at3 fun ad u hrd hix => ⟨u, hrd, hix.at_ (by omega) (by omega) fun ad2 x hx hxi hrd2 => ⟨x, hrd2, ?_⟩⟩
            rw [Int.toNat_natCast] at hx
            have hE := edges_push (g := g) (i := i) (m := m) (x := x) (by rw [hgd]; exact hx)
            have next : ∀ Q' h7 K, Rows (phiR g.length B) (edgesAt' g i (m + 1)) g.length Q' → Hp h1 h7 (rowsL w Q' []) → j6_15_16 D I2 K v (nZ B) (.bool true) (nZ g.length) w (nZ i) (nZ m) h7 := fun Q' h7 K hQ' o7 => by
              unfold j6_15_16
              rw [intK_int, boolW_bool, intK_int, intK_int, intK_int, i64_id (by omega) (by omega)]
              exact ih2 hm' Q' h7 hQ' o7
            have out : ¬ (0 ≤ x ∧ x < (g.length : Int)) → ∀ K, j6_15_19 D I2 K v (nZ B) (.bool true) (nZ g.length) w (nZ i) (nZ m) (.int .i64 x) (.bool false) h6 := fun hno K => by
              unfold j6_15_19
              rw [intK_int, boolW_bool, intK_int, intK_int, intK_int, intK_int, boolW_bool, cond_false]
              refine next Q h6 K ?_ o6
              rw [hE]
              exact hQ.none (by unfold phiR; rw [if_neg hno])
            rw [cond_dec]
            refine ⟨fun hge0 => ?_, fun hneg => out (by omega) _⟩
            by_cases hb : x < (g.length : Int)
            · rw [show decide (x < (g.length : Int)) = true by simpa using hb]
              obtain ⟨y, rfl⟩ := Int.eq_ofNat_of_zero_le (show 0 ≤ x by omega)
              have hy : y < g.length := by omega
              unfold j6_15_19
              rw [intK_int, boolW_bool, intK_int, intK_int, intK_int, intK_int, boolW_bool, cond_true]
              rw [hwr i hi', hwr y hy]
              obtain ⟨u', hu'⟩ := hQ.at (hrot i hi')
              have hlen := edgesAt_len hs (i := i) (m := m) (by omega)
              refine ⟨by omega, by omega, rowsL_row o6 hu' ⟨by omega, ?_⟩⟩
              refine rowsL_app2 o6 hu' (Nat.lt_of_le_of_lt rowE_len hlen) fun u2 h7 o7 => ?_
              refine next _ h7 _ ?_ o7
              rw [hE]
              exact hQ.some (by unfold phiR; rw [if_pos ⟨hge0, hb⟩, Int.toNat_natCast])
            · rw [show decide (x < (g.length : Int)) = false by simpa using hb]
              exact out (by omega) _
          · dsimp only
            rw [xs_e]
            show cond true _ _
            rw [cond_true, nth0, nth1, nth2, nth3, nth4, intK_int, boolW_bool, intK_int]
            show intK _ (nZ i) _
            rw [intK_int, i64_id (by omega) (by omega)]
            refine ih hi' Q h6 ?_ o6
            rw [← edges_next, hgd, show t.length = m by omega]
            exact hQ
        exact key2 0 (by omega) Q h5 hQ o
      · dsimp only
        rw [xs_e]
        show cond true _ _
        rw [cond_true, nth0, nth1, nth2, nth3, nth4, intK_int, boolW_bool, intK_int]
        have hig : i = g.length := by omega
        subst hig
        have hE0 : edgesAt' g g.length 0 = edgesTo g g.length := by simp [edgesAt']
        have hlen := edgesAt_len hs (i := g.length) (m := 0) (by omega)
        rw [hE0] at hQ hlen
        obtain ⟨hgl, hge⟩ := hQ.graph
        have hok := hQ.okR hlen fun e x y hp he => by
          obtain ⟨a, z⟩ := e
          unfold phiR at hp
          split at hp
          · cases hp
            have := Nat.mod_lt (z.toNat + B) hpos
            unfold inI; simp only; omega
          · cases hp
        have ow := rowsL_ow o
        generalize Q.map (·.2) = g' at *
        have hpl := partsOf_len2 g
        have hpl' := partsOf_len2 g'
        refine sP _ _ _ _ _ r5 hn fun a h6 pa => ⟨a, rfl, ?_⟩
        refine sP _ g' _ _ _ ((ow.rw hok).ext pa.ext_) (by omega) fun a2 h7 pa2 => ⟨a2, rfl, ?_⟩
        have ra : Rw h7 a (pI g) := (pa.rw_ hn).ext pa2.ext_
        have rb : Rw h7 a2 (pI g') := pa2.rw_ (by omega)
        have hal : (pI g).length < 2 ^ 40 := by unfold pI; rw [List.length_map]; omega
        have hbl : (pI g').length < 2 ^ 40 := by unfold pI; rw [List.length_map]; omega
        have hedge : ∀ x y, x < g.length → y < g.length → (Gr.Edge g' ((x + B) % g.length) ((y + B) % g.length) ↔ Gr.Edge g x y) := fun x y hx hy => by
          constructor
          · rintro ⟨h1, h2, h3⟩
            obtain ⟨i, t, ht, z, hz, hp⟩ := (hge _ _ (hrot x hx)).mp h3
            unfold phiR at hp
            split at hp
            · rename_i hzz
              simp only [Option.some.injEq, Prod.mk.injEq] at hp
              obtain ⟨hp1, hp2⟩ := hp
              obtain rfl := rot_inj hBn (List.getElem?_eq_some_iff.mp ht).1 hx hp1
              have hzy : z.toNat = y := rot_inj hBn (by omega) hy (by omega)
              refine ⟨hx, hy, ?_⟩
              rw [List.getD_eq_getElem?_getD, ht]
              have : (y : Int) = z := by omega
              rw [this]; exact hz
            · cases hp
          · rintro ⟨h1, h2, h3⟩
            refine ⟨by rw [hgl]; exact hrot x hx, by rw [hgl]; exact hrot y hy, (hge _ _ (hrot x hx)).mpr ⟨x, _, List.getElem?_eq_getElem h1, (y : Int), ?_, ?_⟩⟩
            · rw [List.getD_eq_getElem?_getD, List.getElem?_eq_getElem h1] at h3
              exact h3
            · unfold phiR
              rw [if_pos ⟨by simp, by simp; omega⟩]
              simp
        have hway : ∀ x y, x < g.length → y < g.length → (Gr.Way g' ((x + B) % g.length) ((y + B) % g.length) ↔ Gr.Way g x y) := fun x y hx hy =>
          renamed (f := fun x => (x + B) % g.length) hgl hrot (fun y hy => rot_onto hBn hy) (fun x y hx hy h => rot_inj hBn hx hy h) hedge hx hy
        have hlen2 : (partsOf g).length = (partsOf g').length := renamed_len (f := fun x => (x + B) % g.length) hgl hrot (fun y hy => rot_onto hBn hy) hway
        have htog : ∀ x y : Nat, x < g.length → y < g.length → togB g x y = togB g' (((x + B) % g.length : Nat) : Int) (((y + B) % g.length : Nat) : Int) := fun x y hx hy => by
          rw [Bool.eq_iff_iff, togB_iff, togB_iff]
          unfold Tog
          rw [hway x y hx hy, hway y x hy hx]
        rw [ra.len_, rb.len_, cond_ne]
        refine ⟨fun hne => absurd (by unfold pI; rw [List.length_map, List.length_map]; omega) hne, fun _ => ?_⟩
        intro I3 hI3
        have key3 := down_ind (P := fun i => I3 [nZ B, .bool true, nZ g.length, a, a2, nZ i] h7) g.length fun i hi ih3 => by
          refine hI3 _ _ _ _ _ _ _ ?_
          unfold round6_25
          rw [intK_int, boolW_bool, intK_int, intK_int, cond_dec]
          refine ⟨fun hlt => ?_, fun hge => ?_⟩
          · have hi' : i < g.length := by omega
            intro I4 hI4
            have key4 := down_ind (P := fun m => I4 [nZ B, .bool true, nZ g.length, a, a2, nZ i, nZ m] h7) g.length fun m hm ih4 => by
              refine hI4 _ _ _ _ _ _ _ _ ?_
              unfold round6_28
              rw [intK_int, boolW_bool, intK_int, intK_int, intK_int, cond_dec]
              refine ⟨fun hlt => ?_, fun hge => ?_⟩
              · have hm' : m < g.length := by omega
                refine tog_rule sH ra hal (J := fun t h => j6_28_31 D I4 _ (nZ B) (.bool true) (nZ g.length) a a2 (nZ i) (nZ m) (.bool t) h) ?_
                unfold j6_28_31
                rw [intK_int, boolW_bool, intK_int, intK_int, intK_int, boolW_bool]
                refine ⟨by omega, ?_⟩
                rw [hwr i hi', hwr m hm']
                have hne : ((g.length : Nat) : Int) ≠ 0 := by omega
                simp only [hne, ne_eq, not_false_eq_true, true_and]
                refine tog_rule sH rb hbl (J := fun t h => j6_28_32 D I4 _ (nZ B) (.bool true) (nZ g.length) a a2 (nZ i) (nZ m) (.bool (togB g i m)) (.bool t) h) ?_
                unfold j6_28_32
                rw [intK_int, boolW_bool, intK_int, intK_int, intK_int, boolW_bool, boolW_bool, ← htog i m hi' hm', beq_self_eq_true, Bool.not_true, cond_false, i64_id (by omega) (by omega)]
                exact ih4 hm'
              · dsimp only
                rw [xs_e]
                show cond true _ _
                rw [cond_true, nth0, nth1, nth2, nth3, nth4, intK_int, boolW_bool, intK_int]
                show intK _ (nZ i) _
                rw [intK_int]
                have nx : I3 [nZ B, .bool true, nZ g.length, a, a2, .int .i64 (IntKind.i64.wrap ((i : Int) + 1))] h7 := by
                  rw [i64_id (by omega) (by omega)]
                  exact ih3 hi'
                rw [cond_dec, cond_dec]
                refine ⟨fun _ => ⟨fun _ => ?_, fun _ => nx⟩, fun _ => nx⟩
                rw [xs_e]
                show cond true _ _
                rw [cond_true, nth0, boolW_bool]
                exact hk _
            exact key4 0 (by omega)
          · dsimp only
            rw [xs_e]
            show cond true _ _
            rw [cond_true, nth0, boolW_bool]
            exact hk _
        exact key3 0 (by omega)
    exact key 0 (by omega) Q0 h2 (by rw [edges_zero]; exact hQ0) o2
  rw [cond_dec]
  refine ⟨fun hneg => ?_, fun hnn => ?_⟩
  · rw [i64_id (n := x0 + 1) (by omega) (by omega), i64_id (by omega) (by omega)]
    obtain ⟨B0, hB0⟩ := Int.eq_ofNat_of_zero_le (show 0 ≤ 0 - (x0 + 1) by omega)
    rw [hB0]
    exact main B0 (by omega)
  · obtain ⟨B0, rfl⟩ := Int.eq_ofNat_of_zero_le (show 0 ≤ x0 by omega)
    exact main B0 (by omega)
end Go.Proofs.Ytdndngngdngjjaa.Am
