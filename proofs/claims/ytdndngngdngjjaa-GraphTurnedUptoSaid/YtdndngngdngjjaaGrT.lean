/-
  Packed: The law of turned edges.
-/
import Derived.Test.YtdndngngdngjjaaPkT
namespace Go.Proofs.Ytdndngngdngjjaa.Am
open Go Go.Proofs Gr
set_option linter.unusedVariables false
set_option linter.unusedSimpArgs false
set_option maxRecDepth 100000
variable {D : Orc}

/-- Each edge turned round. -/
def phiT (n : Nat) (e : Nat × Int) : Option (Nat × Int) := if 0 ≤ e.2 ∧ e.2 < n then some (e.2.toNat, (e.1 : Int)) else none
theorem spec5 (c : Cl5 D) (sh : SpecShown D 9) (sP : SpecParts D 11) (sS : SpecSame D 13) {v : Value} {g : G} {h : H} {k : Kv} {kp : Kp} (r : Rw h v g) (hn : g.length < 2 ^ 40) (hs : ∀ t ∈ g, t.length ≤ 1048576)
    (hk : ∀ h', k (.bool true) h') : D 5 [v] h k kp := by
  refine c _ _ _ _ ?_
  unfold F5
  refine sh _ _ _ fun h1 e1 => ⟨true, rfl, ?_⟩
  have r1 := r.ext e1
  rw [Bool.not_true, cond_false, r1.len_, cond_dec]
  refine ⟨fun _ => hk _, fun hle => ?_⟩
  rw [r1.len_]
  refine (Hp.nil_ h1).mkS (by omega) (by decide) fun b h2 f2 o2 => ?_
  obtain ⟨Q0, hQ0, o2⟩ := rows_new (phiT g.length) o2
  generalize (Value.slice (some ⟨b, 0, none⟩) g.length g.length) = w at o2
  intro I hI
  have key := down_ind (P := fun i => ∀ (Q : List (Value × List Int)) (h5 : H), Rows (phiT g.length) (edgesAt' g i 0) g.length Q → Hp h1 h5 (rowsL w Q []) → I [v, .bool true, w, nZ i] h5) g.length fun i hi ih Q h5 hQ o => by
    refine hI _ _ _ _ _ ?_
    unfold round5_8
    have r5 := r1.ext o.ext
    rw [boolW_bool, intK_int, r5.len_, cond_dec]
    refine ⟨fun hlt => ?_, fun hge => ?_⟩
    · have hi' : i < g.length := by omega
      obtain ⟨t, ht⟩ : ∃ t, g[i]? = some t := ⟨_, List.getElem?_eq_getElem hi'⟩
      have hgd : g.getD i [] = t := by rw [List.getD_eq_getElem?_getD, ht]; rfl
      have htl := hs t (List.mem_of_getElem? ht)
      intro I2 hI2
      have key2 := down_ind (P := fun m => ∀ (Q : List (Value × List Int)) (h6 : H), Rows (phiT g.length) (edgesAt' g i m) g.length Q → Hp h1 h6 (rowsL w Q []) → I2 [v, .bool true, w, nZ i, nZ m] h6) t.length fun m hm ih2 Q h6 hQ o6 => by
        refine hI2 _ _ _ _ _ _ ?_
        unfold round5_11
        rw [boolW_bool, intK_int, intK_int]
        have r6 := r1.ext o6.ext
        have at3 : ∀ {K : Addr → Prop}, (∀ ad u, rd h6 ad = some u → Ir h6 u t → K ad) → slAtW v (i : Int) 1 K := fun hk => by
          refine r6.at_ (by omega) (by omega) fun ad u t' ht' hrd hix => ?_
          rw [Int.toNat_natCast, ht] at ht'
          obtain rfl := Option.some.inj ht'
          exact hk ad u hrd hix
        refine at3 fun ad u hrd hix => ⟨u, hrd, ?_⟩
        rw [hix.len_, cond_dec]
        refine ⟨fun hlt2 => ?_, fun hge2 => ?_⟩
        · have hm' : m < t.length := by omega
          refine at3 fun ad u hrd hix => ⟨u, hrd, hix.at_ (by omega) (by omega) fun ad2 x hx hxi hrd2 => ⟨x, hrd2, ?_⟩⟩
          rw [Int.toNat_natCast] at hx
          have hE := edges_push (g := g) (i := i) (m := m) (x := x) (by rw [hgd]; exact hx)
          have next : ∀ Q' h7 K, Rows (phiT g.length) (edgesAt' g i (m + 1)) g.length Q' → Hp h1 h7 (rowsL w Q' []) → j5_11_12 D I2 K v (.bool true) w (nZ i) (nZ m) h7 := fun Q' h7 K hQ' o7 => by
            unfold j5_11_12
            rw [boolW_bool, intK_int, intK_int, i64_id (by omega) (by omega)]
            exact ih2 hm' Q' h7 hQ' o7
          have out : ¬ (0 ≤ x ∧ x < (g.length : Int)) → ∀ K, j5_11_15 D I2 K v (.bool true) w (nZ i) (nZ m) (.int .i64 x) (.bool false) h6 := fun hno K => by
            unfold j5_11_15
            rw [boolW_bool, intK_int, intK_int, intK_int, boolW_bool, cond_false]
            refine next Q h6 K ?_ o6
            rw [hE]
            exact hQ.none (by unfold phiT; rw [if_neg hno])
          rw [cond_dec]
          refine ⟨fun hge0 => ?_, fun hneg => out (by omega) _⟩
          rw [r6.len_]
          by_cases hb : x < (g.length : Int)
          · rw [show decide (x < (g.length : Int)) = true by simpa using hb]
            obtain ⟨y, rfl⟩ := Int.eq_ofNat_of_zero_le (show 0 ≤ x by omega)
            have hy : y < g.length := by omega
            unfold j5_11_15
            rw [boolW_bool, intK_int, intK_int, intK_int, boolW_bool, cond_true]
            obtain ⟨u', hu'⟩ := hQ.at hy
            have hlen := edgesAt_len hs (i := i) (m := m) (by omega)
            refine rowsL_app o6 hu' (Nat.lt_of_le_of_lt rowE_len hlen) fun u2 h7 o7 => ?_
            refine next _ h7 _ ?_ o7
            rw [hE]
            exact hQ.some (by unfold phiT; rw [if_pos ⟨hge0, hb⟩, Int.toNat_natCast])
          · rw [show decide (x < (g.length : Int)) = false by simpa using hb]
            exact out (by omega) _
        · dsimp only
          rw [xs_e]
          show cond true _ _
          rw [cond_true, nth0, nth1, nth2, nth3, boolW_bool, intK_int, i64_id (by omega) (by omega)]
          refine ih hi' Q h6 ?_ o6
          rw [← edges_next, hgd, show t.length = m by omega]
          exact hQ
      exact key2 0 (by omega) Q h5 hQ o
    · dsimp only
      rw [xs_e]
      show cond true _ _
      rw [cond_true, nth0, nth1, nth2, boolW_bool, cond_true]
      have hig : i = g.length := by omega
      subst hig
      have hE0 : edgesAt' g g.length 0 = edgesTo g g.length := by simp [edgesAt']
      have hlen := edgesAt_len hs (i := g.length) (m := 0) (by omega)
      rw [hE0] at hQ hlen
      obtain ⟨hgl, hge⟩ := hQ.graph
      have hok := hQ.okR hlen fun e x y hp he => by
        obtain ⟨a, z⟩ := e
        have := (mem_edgesTo.mp he).1
        unfold phiT at hp
        split at hp
        · cases hp
          unfold inI; simp only; omega
        · cases hp
      have ow := rowsL_ow o
      generalize Q.map (·.2) = g' at *
      refine sP _ g' _ _ _ (ow.rw hok) (by omega) fun a h6 pa => ⟨a, rfl, ?_⟩
      refine sP _ _ _ _ _ (r5.ext pa.ext_) hn fun a2 h7 pa2 => ⟨a2, rfl, ?_⟩
      have hpl := partsOf_len2 g
      have heq : partsOf g' = partsOf g := turned hgl fun x y => by
        constructor
        · rintro ⟨h1, h2, h3⟩
          obtain ⟨i, t, ht, z, hz, hp⟩ := (hge y x (by omega)).mp h3
          unfold phiT at hp
          split at hp
          · rename_i hzz
            simp only [Option.some.injEq, Prod.mk.injEq] at hp
            obtain ⟨hp1, hp2⟩ := hp
            have hix : i = x := by omega
            subst hix
            refine ⟨by omega, by omega, ?_⟩
            rw [List.getD_eq_getElem?_getD, ht]
            have hzz' : (y : Int) = z := by omega
            rw [hzz']; exact hz
          · cases hp
        · rintro ⟨h1, h2, h3⟩
          refine ⟨by omega, by omega, (hge y x h2).mpr ⟨x, _, List.getElem?_eq_getElem h1, (y : Int), ?_, ?_⟩⟩
          · rw [List.getD_eq_getElem?_getD, List.getElem?_eq_getElem h1] at h3
            exact h3
          · unfold phiT
            rw [if_pos ⟨by simp, by simp; omega⟩]
            simp
      refine sS _ _ _ _ _ _ _ ((pa.rw_ (by omega)).ext pa2.ext_) (pa2.rw_ hn) (by rw [List.length_map, heq]; omega) ⟨true, congrArg Value.bool (by rw [heq]; simp), ?_⟩
      exact hk _
  exact key 0 (by omega) Q0 h2 (by rw [edges_zero]; exact hQ0) o2
end Go.Proofs.Ytdndngngdngjjaa.Am
