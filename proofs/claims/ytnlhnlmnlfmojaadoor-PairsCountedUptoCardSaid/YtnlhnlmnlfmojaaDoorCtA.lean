/-
  Packed: The law: as many pairs as defined symbols on right sides, each of its rule.
-/
import Derived.Test.YtnlhnlmnlfmojaaDoorPkQ
import Derived.Test.YtnlhnlmnlfmojaaDoorAmFnsC
set_option linter.unusedVariables false
set_option linter.unusedSimpArgs false
set_option linter.unnecessarySimpa false
namespace Go.Proofs.YtnlhnlmnlfmojaaDoor.Am
open Go Go.Proofs Sys Go.Lib
set_option linter.unusedVariables false
set_option linter.unusedSimpArgs false
set_option maxRecDepth 100000
variable {D : Orc} {T : H → Prop}

theorem Ir.cutC {h : H} {s : Value} {l : List Int} (r : Ir h s l) {lo hi : Option Int} {i j : Nat} (hi0 : lo.getD 0 = (i : Int)) (hj0 : hi.getD (l.length : Int) = (j : Int)) (hij : i ≤ j) (hj : j ≤ l.length) {k : Value → Prop}
    (hk : ∀ s', Ir h s' ((l.take j).drop i) → k s') : slCutW s lo hi none 1 k :=
  r.row.part hi0 (by rw [Z_len]; exact hj0) hij (by rw [Z_len]; exact hj) fun s' r' _ => hk s' ⟨by simpa [Z, List.map_take, List.map_drop] using r', by
    have := r.len
    simp only [List.length_drop, List.length_take]; omega, fun x hx => r.rng x (List.mem_of_mem_take (List.mem_of_mem_drop hx))⟩
theorem rowP_app {S : Sm} {r : Ru} {j : Nat} : ∀ n, ∃ rest, rowP S r (j + n) = rowP S r j ++ rest
  | 0 => ⟨[], by simp⟩
  | n + 1 => by
    obtain ⟨rest, h⟩ := rowP_app (S := S) (r := r) (j := j) n
    exact ⟨rest ++ (gP S r (j + n)).toList, by rw [← Nat.add_assoc, rowP_succ, h, List.append_assoc]⟩
theorem allP_at {S : Sm} {i k : Nat} {r q : Ru} (hr : S.rules[i]? = some r) (hk : k < r.2.length) (hq : gP S r k = some q) :
    (allP S)[((S.rules.take i).flatMap (fun r => rowP S r r.2.length)).length + (rowP S r k).length]? = some q := by
  obtain ⟨h1, _, _⟩ := split_at hr
  obtain ⟨rest, h2⟩ := rowP_app (S := S) (r := r) (j := k + 1) (r.2.length - (k + 1))
  rw [show k + 1 + (r.2.length - (k + 1)) = r.2.length by omega, rowP_succ, hq] at h2
  have h3 : allP S = (S.rules.take i).flatMap (fun r => rowP S r r.2.length) ++ (rowP S r k ++ q :: (rest ++ (S.rules.drop (i + 1)).flatMap fun r => rowP S r r.2.length)) := by
    unfold allP
    conv => lhs; rw [h1]
    rw [List.flatMap_append, List.flatMap_cons, h2]
    simp [List.append_assoc]
  rw [h3, List.getElem?_append_right (by omega), Nat.add_sub_cancel_left, List.getElem?_append_right (Nat.le_refl _), Nat.sub_self]
  rfl
theorem lawCounted (hT : Stays T) (c : Cl8 D) (s6 : SpecShown D 19 T) (s17 : SpecRightS D 17 T) (s13 : SpecDef D 13 T) (s22 : SpecOf D 22 T) (s25 : SpecSameRow D 25)
    {va : Value} {S : Sm} {h : H} {k : Kv} {kp : Kp} (hS : Ss h va S) (ht : T h) (hk : ∀ h', Ext h h' → k (.bool true) h') : D 8 [va] h k kp := by
  obtain ⟨sa, ra, rfl, hsa, hra⟩ := hS.ex
  refine c _ _ _ _ ?_
  unfold F8
  rw [aggW_agg]
  refine (Hp.nil_ h).new_ fun p1 h1 hp1 o1 => ?_
  have o1 : Hp h h1 [cellR p1 [sa, ra]] := o1
  refine s6 _ _ _ (hT _ _ o1.ext ht) fun h2 e2 => ⟨_, rfl, ?_⟩
  have o2 := o1.later e2
  rw [ptrW_ptr]
  refine ⟨sa, ra, rd2 (o2.cell (i := 0) rfl), ?_⟩
  refine s17 _ S _ _ _ (hS.ext o2.ext) (hT _ _ o2.ext ht) fun h3 e3 => ⟨_, rfl, ?_⟩
  have o3 := o2.later e3
  rw [Bool.not_not, cond_true]
  unfold j8__4
  rw [boolW_bool, boolW_bool]
  cases hr : rightS S with
  | false =>
    rw [Bool.not_false, cond_true]
    exact hk h3 o3.ext
  | true =>
  rw [Bool.not_true, cond_false, ptrW_ptr]
  obtain ⟨g1, g2, g3, g4⟩ := right_ok hr
  have hchk : (chkSys S).1 = 0 := by unfold rightS at hr; exact beq_iff_eq.mp hr
  have hs64 := (plain_ok g1).2
  refine ⟨sa, ra, rd2 (o3.cell (i := 0) rfl), ?_⟩
  refine s13 _ S _ _ _ (hS.ext o3.ext) (hT _ _ o3.ext ht) fun dv h4 hd e4 _ => ⟨_, rfl, ?_⟩
  have o4 := o3.later e4
  rw [ptrW_ptr]
  refine ⟨sa, ra, rd2 (o4.cell (i := 0) rfl), ?_⟩
  refine s22 _ S _ _ _ (hS.ext o4.ext) (hT _ _ o4.ext ht) fun lv ps h5 o5 hps => ⟨_, _, rfl, ?_⟩
  have rl : Rr h5 lv (pairsL S) := of_rr (L := []) (by rw [List.append_nil]; exact o5) hps
  have o6 := o4.later o5.ext
  have hd := hd.ext o5.ext
  have b1 := o6.cell (i := 0) rfl
  have hra := hra.ext o6.ext
  have hsa := hsa.ext o6.ext
  have hdl := hd.len
  have hll := rl.len
  intro I hI
  have key := down_ind (P := fun i => ∀ n : Nat, n = ((S.rules.take i).flatMap (fun r => rowP S r r.2.length)).length → n ≤ 512 * i → I [Pt p1, dv, lv, .int .i64 (pairsE S), .int .i64 ((n : Nat) : Int), .int .i64 ((i : Nat) : Int)] h5) S.rules.length fun i hi ih n hn hn5 => by
    refine hI _ _ _ _ _ _ _ ?_
    unfold round8_9
    rw [intK_int, intK_int, intK_int]
    refine ldj b1 rfl ?_
    rw [hra.len_, cond_dec]
    refine ⟨fun hlt => ?_, fun hge => ?_⟩
    · have hi1 : i < S.rules.length := by omega
      refine ldj b1 rfl ?_
      refine hra.at_ (by omega) (by omega) fun ad Lv Rv r hr0 _ _ hrd1 iL iR => ⟨Rv, hrd1, ?_⟩
      rw [Int.toNat_natCast] at hr0
      have hrm := List.mem_of_getElem? hr0
      obtain ⟨q1, q2, q3, q4, q5, _⟩ := ruleE_ok (g4 r hrm)
      have hrl := iR.len
      have hLn := isTerm_ne q1
      intro I2 hI2
      have key2 := down_ind (P := fun m => ∀ n : Nat, n = ((S.rules.take i).flatMap (fun r => rowP S r r.2.length)).length + (rowP S r m).length → n ≤ 512 * i + m → I2 [Pt p1, dv, lv, .int .i64 (pairsE S), .int .i64 ((n : Nat) : Int), .int .i64 ((i : Nat) : Int), Rv, .int .i64 ((m : Nat) : Int)] h5) r.2.length fun m hm ih2 n hn hnm => by
        refine hI2 _ _ _ _ _ _ _ _ _ ?_
        unfold round8_13
        rw [intK_int, intK_int, intK_int, intK_int, iR.len_, cond_dec]
        refine ⟨fun hlt2 => ?_, fun hge2 => ?_⟩
        · have hm1 : m < r.2.length := by omega
          obtain ⟨x, hx⟩ : ∃ x, r.2[m]? = some x := ⟨_, List.getElem?_eq_getElem hm1⟩
          have rdx : ∀ {K : Int → Prop}, K x → slAtW Rv ((m : Nat) : Int) 1 fun ad => ∃ y : Int, rd h5 ad = some (.int .i64 y) ∧ K y := fun hK => by
            refine iR.at_ (by omega) (by omega) fun ad y hy _ hrd => ⟨y, hrd, ?_⟩
            rw [Int.toNat_natCast, hx] at hy
            obtain rfl := Option.some.inj hy
            exact hK
          -- the next code
          have next : ∀ {K : Kl} (n' : Nat), n' = n + (gP S r m).toList.length → n' ≤ n + 1 → j8_13_14 D I2 K (Pt p1) dv lv (.int .i64 (pairsE S)) (.int .i64 ((n' : Nat) : Int)) (.int .i64 ((i : Nat) : Int)) Rv (.int .i64 ((m : Nat) : Int)) h5 := fun n' hn' hle => by
            unfold j8_13_14
            rw [intK_int, intK_int, intK_int, intK_int, i64_id (by omega) (by omega)]
            refine ih2 hm1 n' ?_ (by omega)
            rw [rowP_succ, List.length_append, hn', hn]; omega
          intro I3 hI3
          have key3 := down_ind (P := fun j => ∀ b : Bool, (b = true ↔ x ∈ (defL S).take j) → I3 [Pt p1, dv, lv, .int .i64 (pairsE S), .int .i64 ((n : Nat) : Int), .int .i64 ((i : Nat) : Int), Rv, .int .i64 ((m : Nat) : Int), .bool b, .int .i64 ((j : Nat) : Int)] h5) (defL S).length fun j hj ih3 b hb => by
            refine hI3 _ _ _ _ _ _ _ _ _ _ _ ?_
            unfold round8_17
            rw [intK_int, intK_int, intK_int, intK_int, boolW_bool, intK_int, hd.len_, cond_dec]
            refine ⟨fun hlt3 => ?_, fun hge3 => ?_⟩
            · have hj1 : j < (defL S).length := by omega
              obtain ⟨y, hy⟩ : ∃ y, (defL S)[j]? = some y := ⟨_, List.getElem?_eq_getElem hj1⟩
              have htk := (split_at hy).2.1
              have go : ∀ {K : Kl} (b' : Bool), (b' = true ↔ x ∈ (defL S).take (j + 1)) → j8_17_18 D I3 K (Pt p1) dv lv (.int .i64 (pairsE S)) (.int .i64 ((n : Nat) : Int)) (.int .i64 ((i : Nat) : Int)) Rv (.int .i64 ((m : Nat) : Int)) (.bool b') (.int .i64 ((j : Nat) : Int)) h5 := fun b' hb' => by
                unfold j8_17_18
                rw [intK_int, intK_int, intK_int, intK_int, boolW_bool, intK_int, i64_id (by omega) (by omega)]
                exact ih3 hj1 b' hb'
              cases b with
              | true =>
                rw [Bool.not_true, cond_false]
                refine go true ⟨fun _ => ?_, fun _ => rfl⟩
                rw [htk]
                exact List.mem_append_left _ (hb.mp rfl)
              | false =>
                rw [Bool.not_false, cond_true]
                refine hd.at_ (by omega) (by omega) fun ad y' hy' _ hrd => ⟨y', hrd, ?_⟩
                rw [Int.toNat_natCast, hy] at hy'
                obtain rfl := Option.some.inj hy'
                refine rdx (go _ ?_)
                rw [htk, List.mem_append, List.mem_singleton, beq_iff_eq]
                refine ⟨fun e => .inr e.symm, fun e => ?_⟩
                rcases e with e | e
                · cases hb.mpr e
                · exact e.symm
            · dsimp only
              rw [xs_e]
              show cond true _ _
              rw [cond_true, nth3, nth4, nth5, nth7, nth8, nth0, nth1, nth2, nth6, intK_int, intK_int, intK_int, intK_int, boolW_bool]
              rw [List.take_of_length_le (by omega)] at hb
              cases b with
              | false =>
                rw [Bool.not_false, cond_true]
                have hno : gP S r m = none := by
                  unfold gP
                  rw [hx]
                  show (if x ∈ defL S then _ else none) = none
                  rw [if_neg fun h => by cases hb.mpr h]
                refine next n ?_ (by omega)
                rw [hno]; rfl
              | true =>
                rw [Bool.not_true, cond_false]
                have hxd := hb.mp rfl
                obtain ⟨hpl, u, w, hdr, hu, hsub⟩ := sub_fit hchk hrm hm1
                have hq : gP S r m = some (markT (S.sig.length : Int) r.1, markT (S.sig.length : Int) u) := by
                  unfold gP
                  rw [hx]
                  show (if x ∈ defL S then _ else none) = _
                  rw [if_pos hxd, hsub]
                have thirty : ∀ {K : Kl}, j8_13_30 D I2 K (Pt p1) dv lv (.int .i64 (pairsE S)) (.int .i64 ((n : Nat) : Int)) (.int .i64 ((i : Nat) : Int)) Rv (.int .i64 ((m : Nat) : Int)) h5 := by
                  intro K
                  unfold j8_13_30
                  rw [intK_int, intK_int, intK_int, intK_int, i64_id (by omega) (by omega)]
                  exact next (n + 1) (by rw [hq]; rfl) (by omega)
                rw [rl.len_, cond_dec]
                refine ⟨fun hlt4 => ?_, fun _ => thirty⟩
                have hpa : pairsL S = allP S := by
                  unfold pairsL at hlt4 ⊢
                  rw [if_pos hchk] at hlt4 ⊢
                  split at hlt4
                  · simp at hlt4; omega
                  · rename_i h; rw [if_neg h]
                have hat := allP_at hr0 hm1 hq
                rw [← hn, ← hpa] at hat
                have rdl0 : ∀ {h' : H} {K : Value → Prop}, Ext h5 h' → (∀ v, Ir h' v (markT (S.sig.length : Int) r.1) → K v) → slAtW lv ((n : Nat) : Int) 2 fun ad => ∃ v : Value, rd h' (Addr.add ad 0) = some v ∧ K v := fun e hK => by
                  refine (rl.ext e).at_ (by omega) (by omega) fun ad v v2 q hq' _ h0 _ i0 _ => ⟨v, h0, ?_⟩
                  rw [Int.toNat_natCast, hat] at hq'
                  obtain rfl := Option.some.inj hq'
                  exact hK v i0
                have rdl1 : ∀ {h' : H} {K : Value → Prop}, Ext h5 h' → (∀ v, Ir h' v (markT (S.sig.length : Int) u) → K v) → slAtW lv ((n : Nat) : Int) 2 fun ad => ∃ v : Value, rd h' (Addr.add ad 1) = some v ∧ K v := fun e hK => by
                  refine (rl.ext e).at_ (by omega) (by omega) fun ad v v2 q hq' _ _ h1 _ i1 => ⟨v2, h1, ?_⟩
                  rw [Int.toNat_natCast, hat] at hq'
                  obtain rfl := Option.some.inj hq'
                  exact hK v2 i1
                have rdL : ∀ {K : Value → Prop}, (∀ v, Ir h5 v r.1 → K v) → slAtW ra ((i : Nat) : Int) 2 fun ad => ∃ v : Value, rd h5 (Addr.add ad 0) = some v ∧ K v := fun hK => by
                  refine hra.at_ (by omega) (by omega) fun ad v v2 q hq' _ h0 _ i0 _ => ⟨v, h0, ?_⟩
                  rw [Int.toNat_natCast, hr0] at hq'
                  obtain rfl := Option.some.inj hq'
                  exact hK v i0
                obtain ⟨cL, tL, heL⟩ := List.exists_cons_of_ne_nil hLn
                obtain ⟨cU, tU, heU⟩ := List.exists_cons_of_ne_nil (isTerm_ne hu)
                have hm1l : markT (S.sig.length : Int) r.1 = (cL + S.sig.length) :: tL := by rw [heL]; rfl
                have hm2l : markT (S.sig.length : Int) u = (cU + S.sig.length) :: tU := by rw [heU]; rfl
                have hxu : x = cU := by
                  have : (r.2.drop m)[0]? = some cU := by rw [hdr, heU]; rfl
                  rw [List.getElem?_drop, Nat.add_zero, hx] at this
                  exact Option.some.inj this
                have hul := congrArg List.length hdr
                simp only [List.length_drop, List.length_append] at hul
                have hull : u.length = tU.length + 1 := by rw [heU]; rfl
                have hLl : r.1.length = tL.length + 1 := by rw [heL]; rfl
                have hcL := scan_codes _ _ 1 q1 cL (by rw [heL]; simp)
                have hcU := scan_codes _ _ 1 hu cU (by rw [heU]; simp)
                rw [S2_len] at hcL hcU
                rw [hm1l] at rdl0
                rw [hm2l] at rdl1
                have E := Ext.refl h5
                refine rdl0 E fun v i0 => ?_
                rw [i0.len_, List.length_cons, cond_eq]
                refine ⟨fun h => absurd h (by omega), fun _ => ?_⟩
                refine rdl0 E fun v i0 => ?_
                refine i0.cutC (i := 1) (j := tL.length + 1) rfl rfl (by omega) (by simp) fun sv is => ?_
                refine ldj b1 rfl (rdL fun v2 i2 => ?_)
                rw [heL] at i2
                refine i2.cutC (i := 1) (j := tL.length + 1) rfl rfl (by omega) (by simp) fun sv2 is2 => ?_
                have et : ∀ a : Int, ((a :: tL).take (tL.length + 1)).drop 1 = tL := fun a => by
                  rw [List.take_of_length_le (by simp)]; rfl
                rw [et] at is is2
                refine s25 _ _ _ _ _ _ _ is is2 ⟨_, rfl, ?_⟩
                rw [decide_eq_true rfl, Bool.not_not, cond_true]
                refine rdl0 E fun v i0 => ?_
                refine i0.at_ (by omega) (by simp) fun ad y hy _ hrd => ⟨y, hrd, ?_⟩
                obtain rfl : cL + (S.sig.length : Int) = y := by simpa using hy
                refine ldj b1 rfl (rdL fun v2 i2 => ?_)
                rw [heL] at i2
                refine i2.at_ (by omega) (by simp) fun ad y hy _ hrd => ⟨y, hrd, ?_⟩
                obtain rfl : cL = y := by simpa using hy
                refine ldj b1 rfl ?_
                rw [hsa.row.len, sgRow_len, i64_id (by omega) (by omega), bne_self_eq_false, Bool.not_false, cond_true]
                refine rdl1 E fun v i1 => ?_
                rw [i1.len_, List.length_cons]
                have hne : (((tU.length + 1 : Nat) : Int) == 0) = false := by
                  rw [beq_eq_false_iff_ne]; omega
                rw [hne, Bool.not_false, cond_true]
                refine rdl1 E fun v i1 => ?_
                rw [i1.len_, List.length_cons, iR.len_, i64_id (by omega) (by omega), decide_eq_false (by omega), Bool.not_false, cond_true]
                refine rdl1 E fun v i1 => ?_
                refine i1.at_ (by omega) (by simp) fun ad y hy _ hrd => ⟨y, hrd, ?_⟩
                obtain rfl : cU + (S.sig.length : Int) = y := by simpa using hy
                refine rdx ?_
                refine ldj b1 rfl ?_
                rw [hsa.row.len, sgRow_len, ← hxu, i64_id (by omega) (by omega), bne_self_eq_false]
                unfold j8_13_26
                rw [intK_int, intK_int, intK_int, intK_int, boolW_bool, cond_false]
                refine rdl1 E fun v i1 => ?_
                refine i1.cutC (i := 1) (j := tU.length + 1) rfl rfl (by omega) (by simp) fun sv is => ?_
                refine rdl1 E fun v i1 => ?_
                rw [i1.len_, List.length_cons, i64_id (by omega) (by omega), i64_id (by omega) (by omega)]
                refine iR.cutC (i := m + 1) (j := m + (tU.length + 1)) rfl (by simp) (by omega) (by omega) fun sv2 is2 => ?_
                have et2 : (((cU + (S.sig.length : Int)) :: tU).take (tU.length + 1)).drop 1 = tU := by
                  rw [List.take_of_length_le (by simp)]; rfl
                have et3 : (r.2.take (m + (tU.length + 1))).drop (m + 1) = tU := by
                  have h1 : (r.2.take (m + (tU.length + 1))).drop m = u := by
                    rw [List.drop_take, hdr, Nat.add_sub_cancel_left, ← hull, List.take_left]
                  rw [← List.drop_drop, h1, heU]; rfl
                rw [et2] at is
                rw [et3] at is2
                refine s25 _ _ _ _ _ _ _ is is2 ⟨_, rfl, ?_⟩
                rw [decide_eq_true rfl, Bool.not_true, cond_false]
                exact thirty
          exact key3 0 (by omega) false ⟨fun h => (by cases h), fun h => (by simp at h)⟩
        · dsimp only
          rw [xs_e]
          show cond true _ _
          rw [cond_true, nth3, nth4, nth5, nth0, nth1, nth2, intK_int, intK_int, intK_int, i64_id (by omega) (by omega)]
          obtain rfl : m = r.2.length := by omega
          refine ih hi1 n ?_ (by omega)
          rw [hn, (split_at hr0).2.1, List.flatMap_append, List.length_append]
          simp
      exact key2 0 (by omega) n (by rw [hn]; simp [rowP]) (by omega)
    · dsimp only
      rw [xs_e]
      show cond true _ _
      rw [cond_true, nth1, nth2, nth0, intK_int, intK_int]
      obtain rfl : i = S.rules.length := by omega
      rw [List.take_of_length_le (Nat.le_refl _)] at hn
      have hn : n = (allP S).length := hn
      have hl : pairsL S = if 256 < (allP S).length then [] else allP S := by unfold pairsL; rw [if_pos hchk]
      have he : pairsE S = if 256 < (allP S).length then 2 else 0 := by unfold pairsE; rw [if_pos hchk]
      have o : Ext h h5 := o6.ext
      rw [rl.len_]
      rw [cond_dec]
      refine ⟨fun hgt => ?_, fun hle => ?_⟩
      · rw [he, hl, if_pos (by omega), if_pos (by omega)]
        exact hk h5 o
      · rw [he, if_neg (by omega)]
        show lenW lv _
        rw [rl.len_, hl, if_neg (by omega), ← hn, beq_self_eq_true]
        exact hk h5 o
  exact key 0 (by omega) 0 (by simp) (by omega)
end Go.Proofs.YtnlhnlmnlfmojaaDoor.Am
