/-
  Packed: Which part a node is in; the law of edges that count.
-/
import Derived.Test.YtdndngngdngjjaaPkT
namespace Go.Proofs.Ytdndngngdngjjaa.Am
open Go Go.Proofs Gr
set_option linter.unusedVariables false
set_option linter.unusedSimpArgs false
set_option maxRecDepth 100000
variable {D : Orc}

theorem homeI_or : ∀ (l : List (List Int)) (x : Int) (k : Nat), (homeI l x k = -1 ∧ ∀ r ∈ l, x ∉ r) ∨ ∃ (j : Nat) (r : List Int), l[j]? = some r ∧ x ∈ r ∧ homeI l x k = ((k + j : Nat) : Int)
  | [], x, k => .inl ⟨rfl, by simp⟩
  | r :: l, x, k => by
    unfold homeI
    by_cases hx : x ∈ r
    · rw [if_pos hx]
      exact .inr ⟨0, r, rfl, hx, by simp⟩
    · rw [if_neg hx]
      rcases homeI_or l x (k + 1) with ⟨h1, h2⟩ | ⟨j, q, h1, h2, h3⟩
      · exact .inl ⟨h1, fun q hq => by
          rcases List.mem_cons.mp hq with rfl | hq
          · exact hx
          · exact h2 q hq⟩
      · exact .inr ⟨j + 1, q, by simpa using h1, h2, by rw [h3]; omega⟩
noncomputable def pI (g : G) : List (List Int) := (partsOf g).map toI
theorem mem_toI {p : List Nat} {x : Int} : x ∈ toI p ↔ ∃ y : Nat, x = (y : Int) ∧ y ∈ p := by
  unfold toI
  rw [List.mem_map]
  exact ⟨fun ⟨y, h1, h2⟩ => ⟨y, h2.symm, h1⟩, fun ⟨y, h1, h2⟩ => ⟨y, h2, h1.symm⟩⟩
theorem pI_at {g : G} {j : Nat} {r : List Int} (h : (pI g)[j]? = some r) : ∃ p, (partsOf g)[j]? = some p ∧ r = toI p := by
  unfold pI at h
  rw [List.getElem?_map, Option.map_eq_some_iff] at h
  obtain ⟨p, h1, h2⟩ := h
  exact ⟨p, h1, h2.symm⟩
theorem parts_once {g : G} {i j : Nat} {p q : List Nat} {x : Nat} (hp : (partsOf g)[i]? = some p) (hq : (partsOf g)[j]? = some q) (h1 : x ∈ p) (h2 : x ∈ q) : i = j := by
  have hd := (partsOf_all g).dis
  rw [List.pairwise_iff_getElem] at hd
  obtain ⟨a1, rfl⟩ := List.getElem?_eq_some_iff.mp hp
  obtain ⟨a2, rfl⟩ := List.getElem?_eq_some_iff.mp hq
  rcases Nat.lt_trichotomy i j with h | h | h
  · exact absurd h2 (hd i j a1 a2 h x h1)
  · exact h
  · exact absurd h1 (hd j i a2 a1 h x h2)
/-- Two numbers are told to be in one part just if they are nodes that lie together. -/
theorem home_tog {g : G} {x y : Int} : (0 ≤ homeI (pI g) x 0 ∧ homeI (pI g) x 0 = homeI (pI g) y 0) ↔ ∃ a b : Nat, x = (a : Int) ∧ y = (b : Int) ∧ Tog g a b := by
  constructor
  · rintro ⟨h0, he⟩
    rcases homeI_or (pI g) x 0 with ⟨h1, _⟩ | ⟨j, r, h1, h2, h3⟩
    · omega
    · rcases homeI_or (pI g) y 0 with ⟨k1, _⟩ | ⟨j', r', k1, k2, k3⟩
      · omega
      · have hj : j = j' := by omega
        subst hj
        rw [h1] at k1
        obtain rfl := Option.some.inj k1
        obtain ⟨p, hp, rfl⟩ := pI_at h1
        obtain ⟨a, rfl, ha⟩ := mem_toI.mp h2
        obtain ⟨b, rfl, hb⟩ := mem_toI.mp k2
        exact ⟨a, b, rfl, rfl, in_part.mp ⟨p, List.mem_of_getElem? hp, ha, hb⟩⟩
  · rintro ⟨a, b, rfl, rfl, ht⟩
    obtain ⟨p, hp, ha, hb⟩ := in_part.mpr ht
    obtain ⟨j, hj⟩ := List.getElem?_of_mem hp
    have get : ∀ z : Nat, z ∈ p → homeI (pI g) (z : Int) 0 = ((j : Nat) : Int) := fun z hz => by
      rcases homeI_or (pI g) (z : Int) 0 with ⟨_, h2⟩ | ⟨j', r, h1, h2, h3⟩
      · exact absurd (mem_toI.mpr ⟨z, rfl, hz⟩) (h2 (toI p) (List.mem_map_of_mem hp))
      · obtain ⟨q, hq, rfl⟩ := pI_at h1
        obtain ⟨z', hz', hzq⟩ := mem_toI.mp h2
        obtain rfl : z = z' := by omega
        have := parts_once hj hq hz hzq
        omega
    rw [get a ha, get b hb]
    exact ⟨by omega, rfl⟩
theorem home_nat {g : G} {a b : Nat} : (0 ≤ homeI (pI g) a 0 ∧ homeI (pI g) a 0 = homeI (pI g) b 0) ↔ Tog g a b := by
  rw [home_tog]
  constructor
  · rintro ⟨a', b', h1, h2, h⟩
    obtain rfl : a = a' := by omega
    obtain rfl : b = b' := by omega
    exact h
  · exact fun h => ⟨a, b, rfl, rfl, h⟩
theorem home_self {g : G} {a : Nat} : 0 ≤ homeI (pI g) a 0 ↔ Gr.Way g a a := by
  rw [← tog_self, ← home_nat]
  exact ⟨fun h => ⟨h, rfl⟩, fun h => h.1⟩
/-- The edges within a part. -/
noncomputable def phiN (g : G) (e : Nat × Int) : Option (Nat × Int) := if 0 ≤ homeI (pI g) (e.1 : Int) 0 ∧ homeI (pI g) e.2 0 = homeI (pI g) (e.1 : Int) 0 then some e else none
theorem spec7 (c : Cl7 D) (sh : SpecShown D 9) (sP : SpecParts D 11) (sS : SpecSame D 13) (sH : SpecHome D 14) {v : Value} {g : G} {h : H} {k : Kv} {kp : Kp} (r : Rw h v g) (hn : g.length < 2 ^ 40) (hs : ∀ t ∈ g, t.length ≤ 1048576)
    (hk : ∀ h', k (.bool true) h') : D 7 [v] h k kp := by
  refine c _ _ _ _ ?_
  unfold F7
  refine sh _ _ _ fun h1 e1 => ⟨true, rfl, ?_⟩
  have r1 := r.ext e1
  have hpl := partsOf_len2 g
  rw [Bool.not_true, cond_false, r1.len_, cond_dec]
  refine ⟨fun _ => hk _, fun hle => ?_⟩
  refine sP _ _ _ _ _ r1 hn fun a h2 pa => ⟨a, rfl, ?_⟩
  have ra : Rw h2 a (pI g) := pa.rw_ hn
  have hal : (pI g).length < 2 ^ 40 := by unfold pI; rw [List.length_map]; omega
  have r2 := r1.ext pa.ext_
  rw [r2.len_]
  refine (Hp.nil_ h2).mkS (by omega) (by decide) fun b h3 f2 o2 => ?_
  obtain ⟨Q0, hQ0, o2⟩ := rows_new (phiN g) o2
  generalize (Value.slice (some ⟨b, 0, none⟩) g.length g.length) = w at o2
  intro I hI
  have key := down_ind (P := fun i => ∀ (Q : List (Value × List Int)) (h5 : H), Rows (phiN g) (edgesAt' g i 0) g.length Q → Hp h2 h5 (rowsL w Q []) → I [v, .bool true, a, w, nZ i] h5) g.length fun i hi ih Q h5 hQ o => by
    refine hI _ _ _ _ _ _ ?_
    unfold round7_9
    have r5 := r2.ext o.ext
    have ra5 := ra.ext o.ext
    rw [boolW_bool, intK_int, r5.len_, cond_dec]
    refine ⟨fun hlt => ?_, fun hge => ?_⟩
    · have hi' : i < g.length := by omega
      obtain ⟨t, ht⟩ : ∃ t, g[i]? = some t := ⟨_, List.getElem?_eq_getElem hi'⟩
      have hgd : g.getD i [] = t := by rw [List.getD_eq_getElem?_getD, ht]; rfl
      have htl := hs t (List.mem_of_getElem? ht)
      refine sH _ _ _ _ _ _ ra5 hal ⟨_, rfl, ?_⟩
      intro I2 hI2
      have done : ∀ (Q : List (Value × List Int)) (h6 : H), Rows (phiN g) (edgesAt' g i t.length) g.length Q → Hp h2 h6 (rowsL w Q []) → I [v, .bool true, a, w, .int .i64 (IntKind.i64.wrap ((i : Int) + 1))] h6 := fun Q h6 hQ o6 => by
        rw [i64_id (by omega) (by omega)]
        refine ih hi' Q h6 ?_ o6
        rw [← edges_next, hgd]
        exact hQ
      have key2 := down_ind (P := fun m => ∀ (Q : List (Value × List Int)) (h6 : H), Rows (phiN g) (edgesAt' g i m) g.length Q → Hp h2 h6 (rowsL w Q []) → I2 [v, .bool true, a, w, nZ i, .int .i64 (homeI (pI g) (i : Int) 0), nZ m] h6) t.length fun m hm ih2 Q h6 hQ o6 => by
        refine hI2 _ _ _ _ _ _ _ _ ?_
        unfold round7_13
        rw [boolW_bool, intK_int, intK_int, intK_int]
        have r6 := r2.ext o6.ext
        have ra6 := ra.ext o6.ext
        have at3 : ∀ {K : Addr → Prop}, (∀ ad u, rd h6 ad = some u → Ir h6 u t → K ad) → slAtW v (i : Int) 1 K := fun hk => by
          refine r6.at_ (by omega) (by omega) fun ad u t' ht' hrd hix => ?_
          rw [Int.toNat_natCast, ht] at ht'
          obtain rfl := Option.some.inj ht'
          exact hk ad u hrd hix
        refine at3 fun ad u hrd hix => ⟨u, hrd, ?_⟩
        rw [hix.len_, cond_dec]
        refine ⟨fun hlt2 => ?_, fun hge2 => ?_⟩
        · have hm' : m < t.length := by omega
          rw [cond_dec]
          refine ⟨fun hh0 => ?_, fun hneg => ?_⟩
          · refine at3 fun ad u hrd hix => ⟨u, hrd, hix.at_ (by omega) (by omega) fun ad2 x hx hxi hrd2 => ⟨x, hrd2, ?_⟩⟩
            rw [Int.toNat_natCast] at hx
            have hE := edges_push (g := g) (i := i) (m := m) (x := x) (by rw [hgd]; exact hx)
            refine sH _ _ _ _ _ _ ra6 hal ⟨_, rfl, ?_⟩
            have next : ∀ Q' h7 K, Rows (phiN g) (edgesAt' g i (m + 1)) g.length Q' → Hp h2 h7 (rowsL w Q' []) → j7_13_14 D I2 K v (.bool true) a w (nZ i) (.int .i64 (homeI (pI g) (i : Int) 0)) (nZ m) h7 := fun Q' h7 K hQ' o7 => by
              unfold j7_13_14
              rw [boolW_bool, intK_int, intK_int, intK_int, i64_id (by omega) (by omega)]
              exact ih2 hm' Q' h7 hQ' o7
            rw [cond_eq]
            refine ⟨fun he => ?_, fun hne => ?_⟩
            · obtain ⟨u', hu'⟩ := hQ.at hi'
              have hlen := edgesAt_len hs (i := i) (m := m) (by omega)
              refine rowsL_row o6 hu' ?_
              refine at3 fun ad u hrd hix => ⟨u, hrd, hix.at_ (by omega) (by omega) fun ad2 x' hx' hxi hrd2 => ⟨x', hrd2, ?_⟩⟩
              rw [Int.toNat_natCast, hx] at hx'
              obtain rfl := Option.some.inj hx'
              refine rowsL_app2 o6 hu' (Nat.lt_of_le_of_lt rowE_len hlen) fun u2 h7 o7 => ?_
              refine next _ h7 _ ?_ o7
              rw [hE]
              exact hQ.some (by unfold phiN; rw [if_pos ⟨hh0, he⟩])
            · refine next Q h6 _ ?_ o6
              rw [hE]
              exact hQ.none (by unfold phiN; rw [if_neg fun h => hne h.2])
          · dsimp only
            rw [xs_e]
            show cond true _ _
            rw [cond_true, nth0, nth1, nth2, nth3, nth4, boolW_bool, intK_int]
            refine done Q h6 ?_ o6
            have all : ∀ d, m + d ≤ t.length → Rows (phiN g) (edgesAt' g i (m + d)) g.length Q := by
              intro d
              induction d with
              | zero => exact fun _ => hQ
              | succ d ihd =>
                intro hd
                have hx : t[m + d]? = some t[m + d] := List.getElem?_eq_getElem (by omega)
                rw [show m + (d + 1) = (m + d) + 1 by omega, edges_push (x := t[m + d]) (by rw [hgd]; exact hx)]
                exact (ihd (by omega)).none (by unfold phiN; rw [if_neg fun h => hneg h.1])
            have := all (t.length - m) (by omega)
            rw [show m + (t.length - m) = t.length by omega] at this
            exact this
        · dsimp only
          rw [xs_e]
          show cond true _ _
          rw [cond_true, nth0, nth1, nth2, nth3, nth4, boolW_bool, intK_int]
          refine done Q h6 ?_ o6
          rw [show t.length = m by omega]; exact hQ
      exact key2 0 (by omega) Q h5 hQ o
    · dsimp only
      rw [xs_e]
      show cond true _ _
      rw [cond_true, nth0, nth1, nth2, boolW_bool, cond_true]
      have hig : i = g.length := by omega
      subst hig
      have hE0 : edgesAt' g g.length 0 = edgesTo g g.length := by simp [edgesAt']
      have hlen := edgesAt_len hs (i := g.length) (m := 0) (by omega)
      rw [hE0] at hQ hlen
      obtain ⟨hgl, hge⟩ := hQ.graph
      have hok := hQ.okR hlen fun e x y hp he => by
        obtain ⟨a, z⟩ := e
        obtain ⟨h1, h2⟩ := mem_edgesTo.mp he
        unfold phiN at hp
        split at hp
        · cases hp
          rw [List.getD_eq_getElem?_getD, List.getElem?_eq_getElem h1] at h2
          exact (r.ok _ (List.getElem_mem h1)).2 _ h2
        · cases hp
      have ow := rowsL_ow o
      generalize Q.map (·.2) = g' at *
      refine sP _ g' _ _ _ (ow.rw hok) (by omega) fun a2 h6 pa2 => ⟨a2, rfl, ?_⟩
      have heq : partsOf g' = partsOf g := counted hgl fun x y => by
        constructor
        · rintro ⟨h1, h2, h3⟩
          obtain ⟨i, t, ht, z, hz, hp⟩ := (hge x y (by omega)).mp h3
          unfold phiN at hp
          split at hp
          · rename_i hzz
            simp only [Option.some.injEq, Prod.mk.injEq] at hp
            obtain ⟨hp1, hp2⟩ := hp
            subst hp1 hp2
            refine ⟨⟨by omega, by omega, ?_⟩, home_nat.mp ⟨hzz.1, hzz.2.symm⟩⟩
            rw [List.getD_eq_getElem?_getD, ht]
            exact hz
          · cases hp
        · rintro ⟨⟨h1, h2, h3⟩, ht⟩
          have hh := home_nat.mpr ht
          refine ⟨by omega, by omega, (hge x y h1).mpr ⟨x, _, List.getElem?_eq_getElem h1, (y : Int), ?_, ?_⟩⟩
          · rw [List.getD_eq_getElem?_getD, List.getElem?_eq_getElem h1] at h3
            exact h3
          · unfold phiN
            rw [if_pos ⟨hh.1, hh.2.symm⟩]
      refine sS _ _ _ _ _ _ _ (pa2.rw_ (by omega)) (ra5.ext pa2.ext_) (by rw [List.length_map, heq]; omega) ⟨true, congrArg Value.bool (by rw [heq]; simp [pI]), ?_⟩
      exact hk _
  exact key 0 (by omega) Q0 h3 (by rw [edges_zero]; exact hQ0) o2
end Go.Proofs.Ytdndngngdngjjaa.Am
