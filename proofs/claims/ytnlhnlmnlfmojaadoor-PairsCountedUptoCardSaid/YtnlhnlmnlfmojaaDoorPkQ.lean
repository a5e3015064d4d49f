/-
  Packed: Terms as trees in memory; the part of a term that stands at a place. The part of a term that stands at a place: by the program and by the document; a row with its first code marked. Signatures with their marked symbols; rows with their first codes marked. A signature with its marked symbols: by the program and by the document. The pairs of a system: by the program. The pairs of a system: by the document. Rows and rules that are the same. The cap of a term: by the program. Whether a pair may be followed by another one: by the program. The graph of pairs: by the program. Rows and rules that are the same; the document's examples. The examples hold. The first two laws: a signature is extended, the pairs are the document's.
-/
import Derived.Test.YtnlhnlmnlfmojaaDoorPkP
import Derived.Test.YtnlhnlmnlfmojaaDoorPkB
import Derived.Test.YtnlhnlmnlfmojaaDoorPkT
import Derived.Test.YtnlhnlmnlfmojaaDoorPkU
set_option linter.unusedVariables false
set_option linter.unusedSimpArgs false
set_option linter.unnecessarySimpa false
namespace Go.Proofs.Sys
/-- The row of the term that begins at a place. -/
def subT (sig : Sg) (l : List Int) (i : Nat) : List Int := (l.drop i).take ((l.drop i).length - (eat sig 1 (l.drop i)).2.length)
theorem subT_of {sig : Sg} {l u r : List Int} {i : Nat} (h : l.drop i = u ++ r) (hu : isTerm sig u) : subT sig l i = u := by
  unfold subT
  rw [h, scan_eat_app sig u 1 r hu]
  simp
end Go.Proofs.Sys
namespace Go.Proofs.YtnlhnlmnlfmojaaDoor.Am
open Go Go.Proofs Sys Go.Lib
set_option linter.unusedVariables false
set_option linter.unusedSimpArgs false
set_option maxRecDepth 100000
variable {D : Orc}

/-! ### what is not written any more -/
def frzR (g : H) : Res := ⟨fun b => g b ≠ none, fun h => Ext g h, fun h h' e o b u hb => by rw [e b (by rw [hb]; simp)]; exact o b u hb⟩
open Classical in
theorem Hp.freeze {h0 h g : H} {r : Res} {L : List Res} (o : Hp h0 h (r :: frzR g :: L)) : ∃ g', Ext g g' ∧ r.ok g' ∧ Hp h0 h (frzR g' :: L) := by
  have key : ∀ b, (if r.foot b then h b else g b) ≠ none → r.foot b ∨ g b ≠ none := fun b hb => by
    by_cases hf : r.foot b
    · exact .inl hf
    · rw [if_neg hf] at hb; exact .inr hb
  refine ⟨fun d => if r.foot d then h d else g d, fun b u hb => ?_, ?_, ?_⟩
  · have : ¬ r.foot b := fun hf => o.ne (i := 0) (j := 1) rfl rfl (by decide) hf (show g b ≠ none by rw [hb]; simp)
    show (if r.foot b then h b else g b) = _
    rw [if_neg this]; exact hb
  · exact r.loc h _ (fun b hb => if_pos hb) (o.ok r (by simp))
  · refine ⟨o.ext, fun q hq => ?_, fun q hq b hb => ?_, ?_⟩
    · rcases List.mem_cons.mp hq with rfl | hq
      · intro b u hb
        have hb : (if r.foot b then h b else g b) = some u := hb
        by_cases hf : r.foot b
        · rw [if_pos hf] at hb; exact hb
        · rw [if_neg hf] at hb
          exact (o.get (i := 1) rfl : (frzR g).ok h) b u hb
      · exact o.ok q (by simp [hq])
    · rcases List.mem_cons.mp hq with rfl | hq
      · rcases key b hb with hf | hf
        · exact o.new r (by simp) b hf
        · exact o.new (frzR g) (by simp) b hf
      · exact o.new q (by simp [hq]) b hb
    · have hp := o.dis
      rw [List.pairwise_cons, List.pairwise_cons] at hp
      rw [List.pairwise_cons]
      refine ⟨fun q hq b hb => ?_, hp.2.2⟩
      rcases key b hb with hf | hf
      · exact hp.1 q (by simp [hq]) b hf
      · exact hp.2.1 q hq b hf
theorem Hp.add_frz {h0 h : H} {L : List Res} (o : Hp h0 h L) : Hp h0 h (frzR noH :: L) :=
  o.add (fun _ _ => rfl) (noH_ext h) fun c hc => absurd rfl hc
/-- The first and the third change their places. -/
theorem perm13 {α : Type} {a b c : α} {l : List α} : (c :: b :: a :: l).Perm (a :: b :: c :: l) :=
  ((List.Perm.swap b c (a :: l)).trans (.cons b (.swap a c l))).trans (.swap a b (c :: l))

theorem perm4 {α : Type} {x a b c : α} {l : List α} : (b :: c :: a :: x :: l).Perm (x :: a :: b :: c :: l) := by
  have h1 : (b :: c :: a :: x :: l).Perm (a :: x :: b :: c :: l) := List.perm_append_comm_assoc [b, c] [a, x] l
  exact h1.trans (.swap x a _)

/-! ### trees -/
inductive Tr (sig : Sg) (g : H) : Value → List Int → Prop
  | leaf {c : Int} : Tr sig g (.iface 133 (.int .i64 (-1 - c))) [c]
  | node {b : Nat} {s : Value} {i c : Int} {vs : List Value} {us : List (List Int)} : g b = some (.cells [.int .i64 i, .int .i64 (((c :: us.flatten).length : Nat) : Int), s]) → Row g s vs → vs.length = us.length → us.length ≤ 8 → (∀ u ∈ us, isTerm sig u) →
      (∀ (j : Nat) v u, vs[j]? = some v → us[j]? = some u → Tr sig g v u) → Tr sig g (.iface 103 (.pointer (some ⟨b, 0, none⟩))) (c :: us.flatten)
theorem Tr.ext {sig : Sg} {g g' : H} (e : Ext g g') {v : Value} {u : List Int} (t : Tr sig g v u) : Tr sig g' v u := by
  induction t with
  | leaf => exact .leaf
  | node hb hr hl h8 hu _ ih => exact .node (e _ _ hb) (hr.ext e) hl h8 hu ih
theorem Tr.one {sig : Sg} {g : H} {v : Value} {u : List Int} (t : Tr sig g v u) : one v = true := by cases t <;> rfl
theorem size_tr (c135 : Cl135 D) (c136 : Cl136 D) {sig : Sg} {v : Value} {u : List Int} {h : H} (t : Tr sig h v u) {k : Kv} {kp : Kp} (hk : k (.int .i64 ((u.length : Nat) : Int)) h) : invW Tryd.prog D 3 v "lodestone/term.size" [] h k kp := by
  cases t with
  | leaf => exact size_leaf c136 hk
  | node hb _ _ _ _ _ => exact size_inner c135 hb hk
def SpecReadT (D : Orc) (f : Nat) : Prop := ∀ (sig : List Sy) (n b : Nat) (sgv tv : Value) (l u r : List Int) (i : Nat) (h0 h g : H) (R : List Res) (k : Kv) kp, Sr h0 sgv sig → ArOk sig → Ir h0 tv l → l.drop i = u ++ r → isTerm (S2 sig) u → u.length ≤ n → Hp h0 h (cellR b [sgv, tv, .int .i64 ((i : Nat) : Int), .int .i64 0] :: frzR g :: R) →
  (∀ v g' h', Ext g g' → Tr (S2 sig) g' v u → Hp h0 h' (cellR b [sgv, tv, .int .i64 ((i + u.length : Nat) : Int), .int .i64 0] :: frzR g' :: R) → k v h') → D f [Pt b] h k kp
theorem readT (c : Cl90 D) (c135 : Cl135 D) (c136 : Cl136 D) : SpecReadT D 90 := by
  intro sig n
  induction n with
  | zero =>
    intro b sgv tv l u r i h0 h g R k kp hs ha ht hd hu hn o hk
    exact absurd (List.length_eq_zero_iff.mp (by omega)) (isTerm_ne hu)
  | succ n ih =>
    intro b sgv tv l u r i h0 h g R k kp hs ha ht hd hu hn o hk
    obtain ⟨d, u1, rfl⟩ := List.exists_cons_of_ne_nil (isTerm_ne hu)
    have hil : i < l.length := by
      have := congrArg List.length hd
      simp at this; omega
    have hlen := ht.len
    have hx : l[i]? = some d := by
      have : (l.drop i)[0]? = some d := by rw [hd]; rfl
      rw [List.getElem?_drop] at this; simpa using this
    have hsl := hs.len
    refine c _ _ _ _ ?_
    unfold F90
    have ob := o.cell (i := 0) rfl
    refine ⟨rfl, ldjI ob rfl ?_⟩
    rw [cond_ne]
    refine ⟨fun h => absurd rfl h, fun _ => ?_⟩
    refine ⟨rfl, ldjI ob rfl ⟨rfl, ldj ob rfl ?_⟩⟩
    have q := ht.ext o.ext
    rw [q.len_, cond_eq]
    refine ⟨fun e => by omega, fun _ => ?_⟩
    refine ⟨rfl, ldj ob rfl ⟨rfl, ldjI ob rfl ?_⟩⟩
    refine q.at_ (by omega) (by omega) fun ad x hx' hxi hrd => ⟨x, hrd, rfl, ldj ob rfl ?_⟩
    rw [Int.toNat_natCast, hx] at hx'
    obtain rfl := Option.some.inj hx'
    rw [(hs.ext o.ext).row.len, sgRow_len]
    have hdl : d < sig.length ∧ -1048576 ≤ d := by
      by_cases h0 : 0 ≤ d
      · have := (scan_sym hu h0).1
        rw [S2_len] at this
        omega
      · have := (scan_var hu (by omega)).2
        omega
    rw [decide_eq_false (by omega), Bool.not_false, cond_true, decide_eq_false (by omega)]
    unfold j90__8
    rw [intK_int, boolW_bool, cond_false, cond_dec]
    refine ⟨fun hneg => ?_, fun hpos => ?_⟩
    · obtain ⟨rfl, _⟩ := scan_var hu hneg
      refine ⟨rfl, ldjI ob rfl ⟨rfl, o.stj (i := 0) (j := 2) rfl (by simp) rfl rfl fun h' o' => ?_⟩⟩
      rw [i64_id (by omega) (by omega)] at o'
      rw [i64_id (by omega) (by omega)]
      refine hk _ g h' (Ext.refl g) .leaf ?_
      simpa using o'
    · have hd0 : 0 ≤ d := by omega
      obtain ⟨hds, hscan⟩ := scan_sym hu hd0
      rw [S2_len] at hds
      obtain ⟨us, hus1, hus2, rfl⟩ := split_terms _ _ hscan
      refine ⟨rfl, ldjI ob rfl ⟨rfl, by decide, rfl, by decide, o.new_ fun cb h2 hcb o2 => ?_⟩⟩
      refine ⟨rfl, ldjI (o2.cell (i := 1) rfl) rfl ⟨rfl, o2.stj (i := 1) (j := 2) rfl (by simp) rfl rfl fun h3 o3 => ?_⟩⟩
      rw [i64_id (by omega) (by omega)] at o3
      refine ⟨rfl, ldj (o3.cell (i := 1) rfl) rfl ?_⟩
      refine (hs.ext o3.ext).row.at_ (by omega) (by rw [sgRow_len]; exact hds) fun ad2 v hv _ hj => ?_
      obtain ⟨y, hy, rfl⟩ := sgRow_at hv
      refine ⟨y.2, hj 1 _ rfl, ?_⟩
      have hay := ha y (List.mem_of_getElem? hy)
      have hkid := kids_of (sig := sig) hd0 hy
      have e8 : (y.2 : Int) = ((us.length : Nat) : Int) := by omega
      rw [e8]
      have hus8 : us.length ≤ 8 := by omega
      have hd1 : l.drop (i + 1) = us.flatten ++ r := by
        rw [← List.drop_drop, hd]; rfl
      have hul : us.flatten.length < 2 ^ 40 := by
        have h1 := congrArg List.length hd
        simp only [List.length_drop, List.length_append, List.length_cons] at h1
        omega
      intro I hI
      have key := down_ind (P := fun j => ∀ (h' g' : H) (s : Value) (vs : List Value), Ext g g' → Hp h0 h' (cellR b [sgv, tv, .int .i64 ((i + 1 + (us.take j).flatten.length : Nat) : Int), .int .i64 0] :: frzR g' :: cellR cb [.int .i64 ((i : Nat) : Int), .int .i64 ((1 + (us.take j).flatten.length : Nat) : Int), s] :: bufR s vs :: R) →
          vs.length = j → (∀ (m : Nat) v u, vs[m]? = some v → us[m]? = some u → Tr (S2 sig) g' v u) → I [Pt b, Pt cb, .int .i64 ((us.length : Nat) : Int), .int .i64 ((j : Nat) : Int)] h') us.length
        fun j hj ih2 h' g' s vs eg o' hvl hvt => by
        refine hI _ _ _ _ _ ?_
        unfold round90_16
        rw [intK_int, intK_int, cond_dec]
        have hnl : ∀ j, (us.take j).flatten.length + (us.drop j).flatten.length = us.flatten.length := fun j => by
          rw [← List.length_append, ← List.flatten_append, List.take_append_drop]
        refine ⟨fun hlt => ?_, fun hge => ?_⟩
        · have hj1 : j < us.length := by omega
          have hdrop : (us.drop j).flatten = us[j] ++ (us.drop (j + 1)).flatten := by
            rw [List.drop_eq_getElem_cons hj1, List.flatten_cons]
          have htake : (us.take (j + 1)) = us.take j ++ [us[j]] := by rw [List.take_add_one, List.getElem?_eq_getElem hj1]; rfl
          have hl1 := hnl j
          have htl : (us.take (j + 1)).flatten.length = (us.take j).flatten.length + us[j].length := by rw [htake, List.flatten_append, List.length_append]; simp
          rw [hdrop, List.length_append] at hl1
          simp only [List.length_cons] at hn
          have hdj : l.drop (i + 1 + (us.take j).flatten.length) = us[j] ++ ((us.drop (j + 1)).flatten ++ r) := by
            rw [← List.drop_drop, hd1, ← List.append_assoc, ← hdrop]
            conv => lhs; rw [← List.take_append_drop j us, List.flatten_append, List.append_assoc]
            simp
          refine ih b sgv tv l us[j] _ _ h0 h' g' _ _ _ hs ha ht hdj (hus2 _ (List.getElem_mem hj1)) (by omega) o' fun v g2 h4 eg2 tr2 o4 => ⟨_, rfl, rfl, ldj (o4.cell (i := 2) rfl) rfl ?_⟩
          refine ⟨tr2.one, by decide, ?_⟩
          refine (o4.push (i := 3) rfl (by decide) (by omega) tr2.one (O := True) (U := True) trivial trivial fun s' h5 o5 => ?_).2.2
          refine ⟨rfl, o5.stj (i := 2) (j := 2) rfl (by simp) (sl_one' (o5.row (i := 3) rfl)) rfl fun h6 o6 => ?_⟩
          refine ⟨rfl, ?_⟩
          rw [ptrW_ptr]
          refine ⟨_, rdc_at (o6.cell (i := 2) rfl) rfl, ?_⟩
          refine size_tr c135 c136 (tr2.ext (o6.get (i := 1) rfl)) ⟨rdc_at (o6.cell (i := 2) rfl) rfl, ?_⟩
          rw [intK_int]
          refine ⟨rfl, o6.stj (i := 2) (j := 1) rfl (by simp) rfl rfl fun h7 o7 => ?_⟩
          rw [i64_id (by omega) (by omega)] at o7
          rw [i64_id (by omega) (by omega)]
          refine ih2 hj1 h7 g2 s' (vs ++ [v]) (eg.trans eg2) ?_ (by simp [hvl]) fun m w u hw hu' => ?_
          · rw [htl]
            have e1 : i + 1 + (us.take j).flatten.length + us[j].length = i + 1 + ((us.take j).flatten.length + us[j].length) := by omega
            have e2 : ((1 + (us.take j).flatten.length : Nat) : Int) + ((us[j].length : Nat) : Int) = ((1 + ((us.take j).flatten.length + us[j].length) : Nat) : Int) := by omega
            rw [e1, e2] at o7
            exact o7
          · rw [List.getElem?_append] at hw
            split at hw
            · exact (hvt m w u hw hu').ext eg2
            · rename_i hm
              by_cases h0 : m - vs.length = 0
              · rw [h0] at hw
                have : m = j := by omega
                subst this
                rw [List.getElem?_eq_getElem hj1] at hu'
                simp at hw hu'
                rw [← hw, ← hu']; exact tr2
              · obtain ⟨w', hw'⟩ : ∃ w, m - vs.length = w + 1 := ⟨m - vs.length - 1, by omega⟩
                rw [hw'] at hw; simp at hw
        · dsimp only
          rw [xs_e]
          show cond true _ _
          rw [cond_true, nth0]
          have hju : j = us.length := by omega
          rw [List.take_of_length_le (by omega)] at o'
          obtain ⟨g1, eg1, hc1, o1⟩ := (o'.perm perm13).freeze
          obtain ⟨g2, eg2, hc2, o2⟩ := (o1.perm (List.perm_append_comm_assoc [bufR s vs] [frzR g1, _] R)).freeze
          refine hk _ g2 h' (eg.trans (eg1.trans eg2)) (.node (b := cb) (i := ((i : Nat) : Int)) (eg2 cb (.cells [.int .i64 ((i : Nat) : Int), .int .i64 (((d :: us.flatten).length : Nat) : Int), s]) ?_) (Buf.row hc2) (by omega) hus8 hus2 fun m v u hv hu => (hvt m v u hv hu).ext (eg1.trans eg2)) ?_
          · have : g1 cb = some (.cells [.int .i64 ((i : Nat) : Int), .int .i64 ((1 + us.flatten.length : Nat) : Int), s]) := hc1
            rw [this, List.length_cons, Nat.add_comm]
          · have := o2.perm (.swap (frzR g2) _ R)
            rw [List.length_cons]
            rw [show i + (us.flatten.length + 1) = i + 1 + us.flatten.length by omega]
            exact this
      refine key 0 (by omega) h3 g (.slice none 0 0) [] (Ext.refl g) ?_ rfl (by simp)
      refine (o3.add_nil (a := none)).perm ?_
      rw [List.take_zero]
      exact perm4
def SpecGrownT (D : Orc) (f : Nat) : Prop := ∀ s t sig l h (k : Kv) kp, Sr h s sig → ArOk sig → Ir h t l → isTerm (S2 sig) l → (∀ v h', Ext h h' → Tr (S2 sig) h' v l → k (.tuple #[v, .int .i64 0]) h') → D f [s, t] h k kp
theorem spec78t (c : Cl78 D) (sR : SpecReadT D 90) : SpecGrownT D 78 := by
  intro s t sig l h k kp hs ha ht hl hk
  refine c _ _ _ _ _ ?_
  unfold F78
  refine ⟨sl_one hs.row.isSl, by decide, sl_one ht.row.isSl, by decide, (Hp.nil_ h).add_frz.new_ fun b h1 hb o1 => ?_⟩
  refine sR sig l.length b s t l l [] 0 h h1 noH [] _ _ hs ha ht (by simp) hl (Nat.le_refl _) o1 fun v g' h2 eg tr o2 => ⟨_, rfl, rfl, ldjI (o2.cell (i := 0) rfl) rfl ?_⟩
  have tr2 := tr.ext (o2.get (i := 1) rfl : Ext g' h2)
  have fin : ∀ h', h' = h2 → j78__4 D k kp (Pt b) v (.bool false) h' := fun h' e => by
    subst e
    unfold j78__4
    rw [boolW_bool, cond_false]
    unfold j78__5
    exact ⟨rfl, ldjI (o2.cell (i := 0) rfl) rfl (hk v h' o2.ext tr2)⟩
  rw [cond_eq]
  refine ⟨fun _ => ⟨rfl, ldjI (o2.cell (i := 0) rfl) rfl ?_⟩, fun hne => absurd rfl hne⟩
  rw [(ht.ext o2.ext).len_, decide_eq_false (by omega)]
  exact fin h2 rfl
end Go.Proofs.YtnlhnlmnlfmojaaDoor.Am

namespace Go.Proofs.YtnlhnlmnlfmojaaDoor.Am
open Go Go.Proofs Sys Go.Lib
set_option linter.unusedVariables false
set_option linter.unusedSimpArgs false
set_option maxRecDepth 100000
variable {D : Orc} {T : H → Prop}

theorem as_inner {b : Nat} {k : Value → Prop} (hk : k (Pt b)) : assertW Tryd.prog (.iface 103 (Pt b)) 103 false k := by
  have e : ∀ (u : TypeId) (v : Value) (k : Value → Prop), assertW Tryd.prog (.iface u v) 103 false k = (u = 103 ∧ k v) := fun u v k => by kernel_rfl
  rw [e]
  exact ⟨rfl, hk⟩
/-- What is wrong with a place of a row. -/
def placeE (sig : List Sy) (l : List Int) (i : Int) : Int := if chkTerm sig l ≠ 0 then chkTerm sig l else if i < 0 ∨ (l.length : Int) ≤ i then 33 else 0
def SpecFind (D : Orc) (f : Nat) (T : H → Prop) : Prop := ∀ s t sig l (i : Int) h (k : Kv) kp, inI i → Sr h s sig → T h → Ir h t l → (∀ h', Ext h h' → placeE sig l i ≠ 0 → k (.tuple #[.nilIface, .slice none 0 0, .int .i64 (placeE sig l i)]) h') →
  (∀ v up h' u, Ext h h' → placeE sig l i = 0 → Tr (S2 sig) h' v u → isTerm (S2 sig) u → l.drop i.toNat = u ++ (l.drop (i.toNat + u.length)) → k (.tuple #[v, up, .int .i64 0]) h') → D f [s, t, .int .i64 i] h k kp
theorem spec76 (hT : Stays T) (c : Cl76 D) (c83 : Cl83 D) (s44 : SpecSig D 44 T) (g : SpecGrown D) (gT : SpecGrownT D 78) (c135 : Cl135 D) (c136 : Cl136 D) : SpecFind D 76 T := by
  intro s t sig l i h k kp hi hs ht hl hk1 hk2
  refine c _ _ _ _ _ _ ?_
  unfold F76
  rw [intK_int]
  refine c83 _ _ _ _ _ ?_
  unfold F83
  refine s44 _ _ _ _ _ hs ht fun h1 e1 => ⟨_, rfl, ?_⟩
  have hlen := hl.len
  rw [cond_ne]
  refine ⟨fun hne => ⟨_, _, rfl, ?_⟩, fun h0 => ?_⟩
  · have e : placeE sig l i = chkSig sig := by
      unfold placeE chkTerm
      rw [if_pos hne, if_pos hne]
    rw [cond_ne]
    refine ⟨fun _ => ?_, fun h0 => absurd h0 hne⟩
    have := hk1 h1 e1 (by rw [e]; exact hne)
    rw [e] at this; exact this
  · have hct : chkTerm sig l = scan (S2 sig) 1 l := by unfold chkTerm; rw [if_neg (by simpa using h0)]
    by_cases hsc : scan (S2 sig) 1 l = 0
    · have hit : isTerm (S2 sig) l := hsc
      have hpe : placeE sig l i = if i < 0 ∨ (l.length : Int) ≤ i then 33 else 0 := by unfold placeE; rw [hct, if_neg (by simpa using hsc)]
      refine gT _ _ _ _ _ _ _ (hs.ext e1) (ar_of h0) (hl.ext e1) hit fun v h2 e2 tr => ⟨_, _, rfl, _, _, rfl, ?_⟩
      have e12 := e1.trans e2
      rw [cond_ne]
      refine ⟨fun h => absurd rfl h, fun _ => ?_⟩
      have out : (i < 0 ∨ (l.length : Int) ≤ i) → j76__5 D k kp (.int .i64 i) v (.bool true) h2 := fun hb => by
        unfold j76__5
        rw [intK_int, boolW_bool, cond_true]
        rw [if_pos hb] at hpe
        have := hk1 h2 e12 (by rw [hpe]; decide)
        rw [hpe] at this; exact this
      rw [cond_not, cond_dec]
      refine ⟨fun hneg => out (.inl hneg), fun hpos => ?_⟩
      rw [(hl.ext e12).len_]
      by_cases hge : i ≥ ((l.length : Nat) : Int)
      · rw [decide_eq_true hge]
        exact out (.inr hge)
      · rw [decide_eq_false hge]
        obtain ⟨m, rfl⟩ := Int.eq_ofNat_of_zero_le (show 0 ≤ i by omega)
        rw [if_neg (by omega)] at hpe
        unfold j76__5
        rw [intK_int, boolW_bool, cond_false]
        intro I hI
        have key : ∀ (n here : Nat) (v up : Value) (ups : List Value) (u : List Int) (h3 : H), m - here ≤ n → here ≤ m → m < here + u.length → l.drop here = u ++ l.drop (here + u.length) → isTerm (S2 sig) u → Tr (S2 sig) h2 v u → Hp h2 h3 [bufR up ups] → ups.length ≤ here →
            I [.int .i64 ((m : Nat) : Int), v, up, .int .i64 ((here : Nat) : Int)] h3 := by
          intro n
          induction n with
          | zero =>
            intro here v up ups u h3 hn hh hu hd hit' tr' o hup
            refine hI _ _ _ _ _ ?_
            unfold round76_8
            rw [intK_int, intK_int, cond_dec]
            refine ⟨fun hlt => by omega, fun _ => ?_⟩
            dsimp only
            rw [xs_e]
            show cond true _ _
            rw [cond_true, nth0, nth1]
            obtain rfl : here = m := by omega
            exact hk2 v up h3 u (e12.trans o.ext) hpe (tr'.ext o.ext) hit' hd
          | succ n ih =>
            intro here v up ups u h3 hn hh hu hd hit' tr' o hup
            refine hI _ _ _ _ _ ?_
            unfold round76_8
            rw [intK_int, intK_int, cond_dec]
            refine ⟨fun hlt => ?_, fun _ => ?_⟩
            · cases tr' with
              | leaf => simp at hu; omega
              | @node b s2 i2 c2 vs us hb hr hvl h8 hus hkids =>
              refine as_inner ?_
              refine ⟨rfl, by decide, ?_⟩
              refine (o.push (i := 0) rfl (by decide) (by omega) rfl (O := True) (U := True) trivial trivial fun s' h4 o4 => ?_).2.2
              have hb4 := o4.ext _ _ hb
              refine ⟨rfl, ldj hb4 rfl ?_⟩
              rw [(hr.ext o4.ext).len, hvl]
              rw [i64_id (by omega) (by omega)]
              intro I2 hI2
              have hul : us.flatten.length < 2 ^ 40 := by
                have h1 := congrArg List.length hd
                simp only [List.length_drop, List.length_append, List.length_cons] at h1
                omega
              have hnl : ∀ j, (us.take j).flatten.length + (us.drop j).flatten.length = us.flatten.length := fun j => by
                rw [← List.length_append, ← List.flatten_append, List.take_append_drop]
              have key2 := down_ind (P := fun j => here + 1 + (us.take j).flatten.length ≤ m → I2 [.int .i64 ((m : Nat) : Int), .iface 103 (Pt b), s', .int .i64 ((here + 1 + (us.take j).flatten.length : Nat) : Int), s2, .int .i64 ((us.length : Nat) : Int), .int .i64 ((j : Nat) : Int)] h4) us.length
                fun j hj ih2 hjm => by
                refine hI2 _ _ _ _ _ _ _ _ ?_
                unfold round76_13
                rw [intK_int, intK_int, intK_int, intK_int, cond_dec]
                refine ⟨fun hlt => ?_, fun hge => ?_⟩
                · have hj1 : j < us.length := by omega
                  refine (hr.ext o4.ext).at_ (by omega) (by omega) fun ad w hw hrd => ⟨w, hrd, ?_⟩
                  rw [Int.toNat_natCast] at hw
                  have hdrop : (us.drop j).flatten = us[j] ++ (us.drop (j + 1)).flatten := by
                    rw [List.drop_eq_getElem_cons hj1, List.flatten_cons]
                  have htake : (us.take (j + 1)) = us.take j ++ [us[j]] := by rw [List.take_add_one, List.getElem?_eq_getElem hj1]; rfl
                  have hl1 := hnl j
                  have htl : (us.take (j + 1)).flatten.length = (us.take j).flatten.length + us[j].length := by rw [htake, List.flatten_append, List.length_append]; simp
                  rw [hdrop, List.length_append] at hl1
                  have trw := hkids j w us[j] hw (List.getElem?_eq_getElem hj1)
                  refine size_tr c135 c136 (trw.ext o4.ext) ?_
                  rw [intK_int, cond_dec, i64_id (by omega) (by omega)]
                  refine ⟨fun hgt => ?_, fun hle => ?_⟩
                  · dsimp only
                    rw [xs_e]
                    show cond true _ _
                    rw [cond_true, nth0, nth1, nth2, nth3, intK_int, intK_int]
                    refine ih (here + 1 + (us.take j).flatten.length) w s' _ us[j] h4 (by omega) (by omega) (by omega) ?_ (hus _ (List.getElem_mem hj1)) trw o4 (by simp; omega)
                    have hd1 : l.drop (here + 1) = us.flatten ++ l.drop (here + (us.flatten.length + 1)) := by
                      rw [← List.drop_drop, hd]; rfl
                    generalize l.drop (here + (us.flatten.length + 1)) = w' at hd1
                    have hd2 : l.drop (here + 1 + (us.take j).flatten.length) = us[j] ++ ((us.drop (j + 1)).flatten ++ w') := by
                      have hsp : us.flatten = (us.take j).flatten ++ (us.drop j).flatten := by rw [← List.flatten_append, List.take_append_drop]
                      rw [← List.drop_drop, hd1]
                      conv => lhs; rw [hsp]
                      rw [List.append_assoc, List.drop_left, hdrop, List.append_assoc]
                    have hd3 : l.drop (here + 1 + (us.take j).flatten.length + us[j].length) = (us.drop (j + 1)).flatten ++ w' := by
                      rw [← List.drop_drop, hd2, List.drop_left]
                    rw [hd3]; exact hd2
                  · refine size_tr c135 c136 (trw.ext o4.ext) ?_
                    rw [intK_int, i64_id (by omega) (by omega), i64_id (by omega) (by omega)]
                    have e2 : ((here + 1 + (us.take j).flatten.length : Nat) : Int) + ((us[j].length : Nat) : Int) = ((here + 1 + (us.take (j + 1)).flatten.length : Nat) : Int) := by rw [htl]; omega
                    rw [e2]
                    exact ih2 hj1 (by rw [htl]; omega)
                · rw [List.take_of_length_le (by omega)] at hjm
                  simp only [List.length_cons] at hu
                  omega
              have := key2 0 (by omega) (by simp; omega)
              rw [List.take_zero] at this
              exact this
            · dsimp only
              rw [xs_e]
              show cond true _ _
              rw [cond_true, nth0, nth1]
              obtain rfl : here = m := by omega
              exact hk2 v up h3 u (e12.trans o.ext) hpe (tr'.ext o.ext) hit' hd
        exact key m 0 v _ [] l h2 (by omega) (by omega) (by omega) (by simp) hit tr ((Hp.nil_ h2).add_nil) (by simp)
    · refine g _ _ _ _ _ _ _ (hs.ext e1) (ar_of h0) (hl.ext e1) fun v h2 e2 => ⟨_, _, rfl, _, _, rfl, ?_⟩
      have e : placeE sig l i = scan (S2 sig) 1 l := by
        unfold placeE
        rw [hct, if_pos hsc]
      rw [cond_ne]
      refine ⟨fun _ => ?_, fun h0 => absurd h0 hsc⟩
      have := hk1 h2 (e1.trans e2) (by rw [e]; exact hsc)
      rw [e] at this; exact this
/-- What stands at a place. -/
def subV (sig : List Sy) (l : List Int) (i : Int) : List Int := if placeE sig l i = 0 then subT (S2 sig) l i.toNat else []
def SpecSub (D : Orc) (f : Nat) (T : H → Prop) : Prop := ∀ s t sig l (i : Int) h (k : Kv) kp, inI i → Sr h s sig → T h → Ir h t l → (∀ v h', Ext h h' → Buf h h' v (Z (subV sig l i)) → k (.tuple #[v, .int .i64 (placeE sig l i)]) h') → D f [s, t, .int .i64 i] h k kp
theorem placeE_ok {sig : List Sy} {l : List Int} {i : Int} (h : placeE sig l i = 0) : chkTerm sig l = 0 ∧ 0 ≤ i ∧ i < l.length := by
  unfold placeE at h
  split at h
  · rename_i hne; exact absurd h hne
  · rename_i h0
    split at h
    · cases h
    · exact ⟨Classical.not_not.mp h0, by omega, by omega⟩
theorem spec50 (c : Cl50 D) (sF : SpecFind D 76 T) (c135 : Cl135 D) (c136 : Cl136 D) (c48 : Cl48 D) : SpecSub D 50 T := by
  intro s t sig l i h k kp hi hs ht hl hk
  refine c _ _ _ _ _ _ ?_
  unfold F50
  rw [intK_int]
  refine sF _ _ _ _ _ _ _ _ hi hs ht hl (fun h1 e1 hne => ⟨_, _, _, rfl, ?_⟩) fun v up h1 u e1 h0 tr hu hd => ⟨_, _, _, rfl, ?_⟩
  · rw [cond_ne]
    refine ⟨fun _ => hk _ h1 e1 ?_, fun h0 => absurd h0 hne⟩
    unfold subV
    rw [if_neg hne]
    exact .inl ⟨⟨none, rfl⟩, rfl⟩
  · rw [cond_ne]
    refine ⟨fun h => absurd rfl h, fun _ => ?_⟩
    obtain ⟨_, hi0, hil⟩ := placeE_ok h0
    obtain ⟨m, rfl⟩ := Int.eq_ofNat_of_zero_le hi0
    rw [Int.toNat_natCast] at hd
    have hlen := hl.len
    have hul : m + u.length ≤ l.length := by
      have h1 := congrArg List.length hd
      simp only [List.length_drop, List.length_append] at h1
      omega
    refine size_tr c135 c136 tr ?_
    rw [intK_int, i64_id (by omega) (by omega)]
    have hl1 := hl.ext e1
    refine hl1.row.part (i := m) (j := m + u.length) rfl (by simp) (by omega) (by rw [Z_len]; omega) fun s' hs' _ => ?_
    have hz : ((Z l).take (m + u.length)).drop m = Z u := by
      unfold Z
      rw [← List.map_take, ← List.map_drop, List.drop_take, hd]
      simp
    rw [hz] at hs'
    have hr : ∀ x ∈ u, inI x := fun x hx => hl.rng x (List.mem_of_mem_drop (i := m) (by rw [hd]; simp [hx]))
    refine spec48 c48 (l := u) ⟨hs', by omega, hr⟩ fun v2 h2 hb e2 => ⟨_, rfl, ?_⟩
    have hk := hk v2 h2 (e1.trans e2)
    rw [h0] at hk
    refine hk ?_
    unfold subV
    rw [if_pos h0, Int.toNat_natCast, subT_of hd hu]
    exact hb.mono e1
/-! ### the document's end of a term -/
def SpecEndT (D : Orc) (f : Nat) : Prop := ∀ s t sig l (i : Nat) (u r : List Int) h (k : Kv) kp, Sr h s sig → ArOk sig → Ir h t l → l.drop i = u ++ r → isTerm (S2 sig) u → k (.int .i64 ((i + u.length : Nat) : Int)) h → D f [s, t, .int .i64 ((i : Nat) : Int)] h k kp
theorem spec53 (c : Cl53 D) : SpecEndT D 53 := by
  intro s t sig l i u r h k kp hs ha hl hd hu hk
  refine c _ _ _ _ _ _ ?_
  unfold F53
  rw [intK_int]
  have hlen := hl.len
  have hsl := hs.len
  have hne := List.length_pos_iff.mpr (isTerm_ne hu)
  have hil : i + u.length ≤ l.length := by
    have h1 := congrArg List.length hd
    simp only [List.length_drop, List.length_append] at h1
    omega
  intro I hI
  have key : ∀ (n p o : Nat) (w : List Int), w.length ≤ n → p + w.length = i + u.length → l.drop p = w ++ r → scan (S2 sig) o w = 0 → o ≤ 8 * p + 8 → I [s, t, .int .i64 ((p : Nat) : Int), .int .i64 ((o : Nat) : Int)] h := by
    intro n
    induction n with
    | zero =>
      intro p o w hw hp hdw hsc ho
      obtain rfl := List.length_eq_zero_iff.mp (Nat.le_zero.mp hw)
      have h0 : o = 0 := by
        cases o with
        | zero => rfl
        | succ o => simp [scan] at hsc
      subst h0
      refine hI _ _ _ _ _ ?_
      unfold round53_2
      rw [intK_int, intK_int, cond_dec]
      refine ⟨fun hlt => by omega, fun _ => ?_⟩
      dsimp only
      rw [xs_e]
      show cond true _ _
      rw [cond_true, nth0, intK_int]
      have : p = i + u.length := by simpa using hp
      rw [this]; exact hk
    | succ n ih =>
      intro p o w hw hp hdw hsc ho
      refine hI _ _ _ _ _ ?_
      unfold round53_2
      rw [intK_int, intK_int, cond_dec]
      refine ⟨fun hlt => ?_, fun hge => ?_⟩
      · cases o with
        | zero => exact absurd hlt (by decide)
        | succ o =>
        cases w with
        | nil => simp [scan] at hsc
        | cons d w =>
        have hx : l[p]? = some d := by
          have : (l.drop p)[0]? = some d := by rw [hdw]; rfl
          rw [List.getElem?_drop] at this; simpa using this
        have hpl := (List.getElem?_eq_some_iff.mp hx).1
        have hdw1 : l.drop (p + 1) = w ++ r := by rw [← List.drop_drop, hdw]; rfl
        simp only [List.length_cons] at hw hp
        unfold scan at hsc
        split at hsc
        · cases hsc
        rename_i hbad
        refine hl.at_ (by omega) (by omega) fun ad x hx' hxi hrd => ⟨x, hrd, ?_⟩
        rw [Int.toNat_natCast, hx] at hx'
        obtain rfl := Option.some.inj hx'
        rw [cond_dec, i64_id (n := ((o + 1 : Nat) : Int) - 1) (by omega) (by omega)]
        have e1 : ((o + 1 : Nat) : Int) - 1 = ((o : Nat) : Int) := by omega
        rw [e1]
        have step : ∀ {K : Kl} o', scan (S2 sig) o' w = 0 → o' ≤ o + 8 → j53_2_6 D I K s t (.int .i64 ((p : Nat) : Int)) (.int .i64 ((o' : Nat) : Int)) h := fun o' hs' ho' => by
          unfold j53_2_6
          rw [intK_int, intK_int, i64_id (by omega) (by omega)]
          exact ih (p + 1) o' w (by omega) (by omega) hdw1 hs' (by omega)
        refine ⟨fun hpos => ?_, fun hneg => ?_⟩
        · have hds : d < sig.length := by
            have hb : badC (S2 sig).length d = false := by simpa using hbad
            simp only [badC, Bool.or_eq_false_iff, decide_eq_false_iff_not, S2_len] at hb
            omega
          refine hl.at_ (by omega) (by omega) fun ad x hx' hxi hrd => ⟨x, hrd, ?_⟩
          rw [Int.toNat_natCast, hx] at hx'
          obtain rfl := Option.some.inj hx'
          refine hs.row.at_ (by omega) (by rw [sgRow_len]; exact hds) fun ad2 v hv _ hj => ?_
          obtain ⟨y, hy, rfl⟩ := sgRow_at hv
          refine ⟨y.2, hj 1 _ rfl, ?_⟩
          have hay := ha y (List.mem_of_getElem? hy)
          have hkid := kids_of (sig := sig) hpos hy
          rw [i64_id (by omega) (by omega)]
          have e2 : ((o : Nat) : Int) + y.2 = ((o + kids (S2 sig) d : Nat) : Int) := by omega
          rw [e2]
          exact step _ hsc (by omega)
        · have : kids (S2 sig) d = 0 := by unfold kids; rw [if_pos (by omega)]
          rw [this] at hsc
          exact step o hsc (by omega)
      · have h0 : o = 0 := by omega
        subst h0
        have : w = [] := by
          cases w with
          | nil => rfl
          | cons d w => simp [scan] at hsc
        subst this
        dsimp only
        rw [xs_e]
        show cond true _ _
        rw [cond_true, nth0, intK_int]
        have : p = i + u.length := by simpa using hp
        rw [this]; exact hk
  exact key u.length i 1 u (Nat.le_refl _) rfl hd hu (by omega)
end Go.Proofs.YtnlhnlmnlfmojaaDoor.Am

namespace Go.Proofs.YtnlhnlmnlfmojaaDoor.Am
open Go Go.Proofs Sys Go.Lib
set_option linter.unusedVariables false
set_option linter.unusedSimpArgs false
set_option maxRecDepth 100000
variable {D : Orc} {T : H → Prop}

theorem spec51 (c : Cl51 D) : SpecHasI D 51 := by
  intro s l x h k kp r hk
  refine c _ _ _ _ _ ?_
  unfold F51
  rw [intK_int]
  have hl := r.len
  intro I hI
  have key : ∀ (n i : Nat), l.length - i ≤ n → i ≤ l.length → decide (x ∈ l.drop i) = decide (x ∈ l) → I [s, .int .i64 x, .int .i64 ((i : Nat) : Int)] h := by
    intro n
    induction n with
    | zero =>
      intro i hn hi ha
      refine hI _ _ _ _ ?_
      unfold round51_2
      rw [intK_int, intK_int, r.len_, cond_dec]
      refine ⟨fun hlt => by omega, fun _ => ?_⟩
      rw [List.drop_eq_nil_of_le (by omega)] at ha
      rw [← ha] at hk
      exact hk
    | succ n ih =>
      intro i hn hi ha
      refine hI _ _ _ _ ?_
      unfold round51_2
      rw [intK_int, intK_int, r.len_, cond_dec]
      refine ⟨fun hlt => ?_, fun _ => ?_⟩
      · refine r.at_ (by omega) (by omega) fun ad c hc _ hrd => ?_
        rw [Int.toNat_natCast] at hc
        rw [mem_drop hc] at ha
        refine ⟨c, hrd, ?_⟩
        rw [cond_eq]
        refine ⟨fun he => ?_, fun hne => ?_⟩
        · subst he
          rw [decide_eq_true rfl, Bool.true_or] at ha
          rw [← ha] at hk
          exact hk
        · rw [decide_eq_false (fun h => hne h.symm), Bool.false_or] at ha
          rw [i64_id (by omega) (by omega)]
          exact ih (i + 1) (by omega) (by omega) ha
      · rw [List.drop_eq_nil_of_le (by omega)] at ha
        rw [← ha] at hk
        exact hk
  exact key l.length 0 (by omega) (by omega) (by simp)
/-! ### a row with its first code marked -/
def markT (n : Int) (l : List Int) : List Int := (l.headD 0 + n) :: l.tail
theorem Z_one {l : List Int} : (Z l).all one = true := by simp [Z, one]
theorem spec52 (c : Cl52 D) {t : Value} {l : List Int} {n : Int} {h : H} {k : Kv} {kp : Kp} (r : Ir h t l) (hne : l ≠ []) (hr : inI (l.headD 0 + n)) (hk : ∀ v h', Ext h h' → Buf h h' v (Z (markT n l)) → k v h') : D 52 [t, .int .i64 n] h k kp := by
  refine c _ _ _ _ _ ?_
  unfold F52
  rw [intK_int]
  have hlen := r.len
  refine (Hp.nil_ h).newSl0 fun s1 h1 o1 => ?_
  have r1 := r.ext o1.ext
  rw [r1.row.slen]
  refine r1.row.src (Nat.le_refl _) ?_
  rw [List.take_length]
  refine o1.app (i := 0) rfl Z_one (by decide) (by rw [Z_len]; simp; omega) fun s2 h2 o2 => ?_
  obtain ⟨x, l, rfl⟩ := List.exists_cons_of_ne_nil hne
  refine (o2.row (i := 0) rfl).at_ (by decide) (by simp [Z]) fun ad v hv hrd => ?_
  have : v = .int .i64 x := by simpa [Z] using hv.symm
  subst this
  refine ⟨x, hrd, ?_⟩
  have hx : inI (x + n) := hr
  rw [i64_id hx.1 hx.2]
  refine o2.put (i := 0) (j := 0) rfl (by simp [Z]) rfl rfl fun h3 o3 => ?_
  have o3' : Hp h h3 [bufR s2 (Z (markT n (x :: l)))] := o3
  exact hk s2 h3 o3.ext (by
    have hb := o3'.buf (i := 0) rfl
    have hn := o3'.new _ (List.mem_cons_self ..)
    exact hb.of_new fun d hd => (hn d hd).1)
theorem spec47 (c : Cl47 D) (c48 : Cl48 D) {t a b : Value} {p : Nat} {sig : List Sy} {l : List Int} {h : H} {k : Kv} {kp : Kp} (r : Ir h t l) (hne : l ≠ []) (hp : h p = some (.cells [a, b])) (hs : Sr h a sig) (hr : inI (l.headD 0 + (sig.length : Int))) (hk : ∀ v h', Ext h h' → Buf h h' v (Z (markT (sig.length : Int) l)) → k v h') : D 47 [t, Pt p] h k kp := by
  refine c _ _ _ _ _ ?_
  unfold F47
  have hlen := r.len
  refine spec48 c48 r fun s2 h2 hb e2 => ⟨_, rfl, ?_⟩
  obtain ⟨x, l, rfl⟩ := List.exists_cons_of_ne_nil hne
  have o2 := (Hp.nil_ h).add_buf e2 hb
  refine (o2.row (i := 0) rfl).at_ (by decide) (by simp [Z]) fun ad v hv hrd => ?_
  have : v = .int .i64 x := by simpa [Z] using hv.symm
  subst this
  refine ⟨x, hrd, ldj (e2 _ _ hp) rfl ?_⟩
  rw [(hs.ext e2).row.len, sgRow_len]
  have hx : inI (x + (sig.length : Int)) := hr
  rw [i64_id hx.1 hx.2]
  refine o2.put (i := 0) (j := 0) rfl (by simp [Z]) rfl rfl fun h3 o3 => ?_
  have o3' : Hp h h3 [bufR s2 (Z (markT (sig.length : Int) (x :: l)))] := o3
  exact hk s2 h3 o3.ext (by
    have hb := o3'.buf (i := 0) rfl
    have hn := o3'.new _ (List.mem_cons_self ..)
    exact hb.of_new fun d hd => (hn d hd).1)
/-! ### a signature with its marked symbols -/
theorem sg_all (sig : List Sy) : (sgRow sig).flatten.all one = true := by
  induction sig with
  | nil => rfl
  | cons x r ih => simpa [sgRow, cellsOf, one] using ih
theorem sg_two (sig : List Sy) : ∀ v ∈ sgRow sig, v.length = 2 := fun v hv => by
  simp only [sgRow, List.mem_map] at hv
  obtain ⟨x, _, rfl⟩ := hv; rfl
theorem spec45 (c : Cl45 D) {a : Value} {sig : List Sy} {h : H} {k : Kv} {kp : Kp} (ra : Sr h a sig) (hk : ∀ v h', BufK 2 h h' v (sgRow sig) → Ext h h' → k v h') : D 45 [a] h k kp := by
  refine c _ _ _ _ ?_
  unfold F45
  have hl := ra.len
  refine eq_nil_rule ra.row.isSl (fun ⟨n, c, hs⟩ => ?_) ?_
  · subst hs
    have : sig = [] := by have := ra.row.nil_of.1; simpa [sgRow] using this
    subst this
    exact hk _ _ BufK.nil_ (Ext.refl _)
  · rw [cond_false]
    refine (Hp.nil_ h).newSlK (sz := 2) fun s1 h1 o1 => ?_
    have r1 := ra.row.ext o1.ext
    rw [r1.slen]
    refine r1.src (Nat.le_refl _) ?_
    rw [List.take_length]
    refine o1.appK (i := 0) rfl rfl (sg_all sig) (sg_two sig) rfl rfl (by decide) (by rw [sgRow_len]; simp; omega) fun s2 h2 o2 => ?_
    exact hk s2 h2 ((o2.bufK_ (i := 0) rfl).of_new fun d hd => (o2.new _ (List.mem_cons_self ..) d hd).1) o2.ext
def markS (x : Sy) : Sy := (x.1 ++ ByteArray.mk #[35], x.2)
def extV (sig : List Sy) : List Sy := if plainE sig = 0 then sig ++ sig.map markS else []
def SpecExt (D : Orc) (f : Nat) (T : H → Prop) : Prop := ∀ s sig h (k : Kv) kp, Sr h s sig → T h → (∀ v h', Ext h h' → BufK 2 h h' v (sgRow (extV sig)) → k (.tuple #[v, .int .i64 (plainE sig)]) h') → D f [s] h k kp
theorem named_size {s : ByteArray} (h : named2 s = true) : s.size ≤ 65 := by
  have one : ∀ s : ByteArray, isName s = true → s.size ≤ 64 := fun s h => by
    unfold isName at h
    simp only [Bool.and_eq_true, bne_iff_ne, ne_eq, decide_eq_true_eq] at h
    omega
  unfold named2 at h
  rw [Bool.or_eq_true] at h
  rcases h with h | h
  · have := one s h; omega
  · unfold isMark at h
    simp only [Bool.and_eq_true, decide_eq_true_eq] at h
    have := one _ h.2
    have e : (s.extract 0 (s.size - 1)).size = s.size - 1 := by simp
    omega
theorem mark_size (x : ByteArray) : (x ++ ByteArray.mk #[35]).size = x.size + 1 := by
  rw [ByteArray.size_append]; rfl
theorem ext_sr {h : H} {v : Value} {sig : List Sy} (r : RowK 2 h v (sgRow (extV sig))) : Sr h v (extV sig) := by
  by_cases h0 : plainE sig = 0
  · have hp := plain_ok h0
    have hn := (chkSig_named hp.1).2
    have e : extV sig = sig ++ sig.map markS := if_pos h0
    refine ⟨r, ?_, fun x hx => ?_⟩
    · rw [e]; simp; omega
    · rw [e, List.mem_append] at hx
      rcases hx with hx | hx
      · have := named_size (hn x hx).1; omega
      · obtain ⟨y, hy, rfl⟩ := List.mem_map.mp hx
        have := named_size (hn y hy).1
        show (y.1 ++ ByteArray.mk #[35]).size < _
        rw [mark_size]; omega
  · have e : extV sig = [] := if_neg h0
    exact ⟨r, by rw [e]; simp, fun x hx => by rw [e] at hx; cases hx⟩
end Go.Proofs.YtnlhnlmnlfmojaaDoor.Am

namespace Go.Proofs.YtnlhnlmnlfmojaaDoor.Am
open Go Go.Proofs Sys Go.Lib
set_option linter.unusedVariables false
set_option linter.unusedSimpArgs false
set_option maxRecDepth 100000
variable {D : Orc} {T : H → Prop}

theorem sgRow_app (a b : List Sy) : sgRow (a ++ b) = sgRow a ++ sgRow b := by simp [sgRow]
theorem ext_grow {sig : List Sy} {i : Nat} {x : Sy} (hx : sig[i]? = some x) : sgRow (sig ++ (sig.take i).map markS) ++ [[.string (x.1 ++ ByteArray.mk #[35]), .int .i64 x.2]] = sgRow (sig ++ (sig.take (i + 1)).map markS) := by
  rw [(split_at hx).2.1, List.map_append, ← List.append_assoc, sgRow_app (sig ++ _)]
  rfl
theorem spec20 (hT : Stays T) (c : Cl20 D) (s44 : SpecSig D 44 T) (c45 : Cl45 D) (c46 : Cl46 D) (c74 : Cl74 D) : SpecExt D 20 T := by
  intro s sig h k kp r ht hk
  refine c _ _ _ _ ?_
  unfold F20
  have hlen := r.len
  refine s44 _ _ _ _ _ r ht fun h1 e1 => ⟨_, rfl, ?_⟩
  have no : ∀ e, plainE sig = e → e ≠ 0 → ∀ h', Ext h h' → k (.tuple #[.slice none 0 0, .int .i64 e]) h' := fun e he hne h' e' => by
    have := hk (.slice none 0 0) h' e' (by unfold extV; rw [if_neg (by rw [he]; exact hne)]; exact BufK.nil_)
    rw [he] at this; exact this
  rw [cond_ne]
  refine ⟨fun hne => no _ (by unfold plainE; rw [if_pos hne]) hne h1 e1, fun h0 => ?_⟩
  have ep : plainE sig = if 64 < sig.length then 37 else if sig.any (fun x => isMark x.1) then 34 else 0 := by
    unfold plainE; rw [if_neg (by simpa using h0)]
  rw [(r.ext e1).row.len, sgRow_len, cond_dec]
  refine ⟨fun hb => no 37 (by rw [ep, if_pos (by omega)]) (by decide) h1 e1, fun hb => ?_⟩
  rw [if_neg (by omega)] at ep
  have hn := (chkSig_named h0).2
  rw [← any_marks fun x hx => (hn x hx).1] at ep
  refine spec45 c45 (r.ext e1) fun v2 h2 b2 e2 => ⟨_, rfl, ?_⟩
  have o2 := ((Hp.nil_ h1).add_bufK e2 b2).base e1
  rw [(r.ext o2.ext).row.len, sgRow_len]
  intro I hI
  have key := down_ind (P := fun j => ∀ (v : Value) (h' : H), (∀ x ∈ sig.take j, ends35 x.1 = false) → Hp h h' [bufK 2 v (sgRow (sig ++ (sig.take j).map markS))] → I [v, s, .int .i64 ((sig.length : Nat) : Int), .int .i64 ((j : Nat) : Int)] h') sig.length
    fun j hj ih2 v h' hno o' => by
    refine hI _ _ _ _ _ ?_
    unfold round20_8
    rw [intK_int, intK_int, cond_dec]
    refine ⟨fun hlt => ?_, fun hge => ?_⟩
    · refine (r.ext o'.ext).row.at_ (by omega) (by rw [sgRow_len]; omega) fun ad w hw hrd _ => ?_
      rw [Int.toNat_natCast] at hw
      obtain ⟨x, hx, rfl⟩ := sgRow_at hw
      refine ⟨x.1, x.2, hrd, ?_⟩
      have hxm := List.mem_of_getElem? hx
      refine two_rule rfl rfl rfl fun b h3 hb hb3 e3 => ⟨x.1, rdc_at hb3 rfl, ?_⟩
      refine spec46 c46 c74 (r.names x hxm) ⟨_, rfl, ?_⟩
      have o3 := o'.later e3
      cases he : ends35 x.1 with
      | true =>
        rw [cond_true]
        dsimp only
        rw [xs_r, nth0, nth1, intK_int]
        refine no 34 ?_ (by decide) h3 o3.ext
        rw [ep, if_pos]
        exact List.any_eq_true.mpr ⟨x, hxm, he⟩
      | false =>
        rw [cond_false]
        have hsz := named_size (hn x hxm).1
        have h1 : (ByteArray.mk #[35]).size = 1 := rfl
        refine ldx hb3 rfl ⟨by rw [h1]; omega, ldjI hb3 rfl ⟨rfl, by decide, rfl, by decide, rfl, by decide, ?_⟩⟩
        refine o3.pushK (i := 0) rfl rfl rfl (by decide) (by rw [sgRow_len]; simp; omega) rfl fun v4 h4 o4 => ?_
        rw [i64_id (by omega) (by omega)]
        refine ih2 (by omega) v4 h4 (fun y hy => ?_) ?_
        · rw [(split_at hx).2.1, List.mem_append] at hy
          rcases hy with hy | hy
          · exact hno y hy
          · simp only [List.mem_singleton] at hy
            subst hy; exact he
        · rw [← ext_grow hx]; exact o4
    · dsimp only
      rw [xs_e]
      show cond true _ _
      rw [cond_true, nth0]
      rw [List.take_of_length_le (by omega)] at hno o'
      have hp : plainE sig = 0 := by
        rw [ep, if_neg]
        intro hany
        obtain ⟨x, hx, he⟩ := List.any_eq_true.mp hany
        rw [hno x hx] at he; cases he
      have := hk v h' o'.ext (by
        have e : extV sig = sig ++ sig.map markS := if_pos hp
        rw [e]
        exact (o'.bufK_ (i := 0) rfl).of_new fun d hd => (o'.new _ (List.mem_cons_self ..) d hd).1)
      rw [hp] at this
      exact this
  exact key 0 (by omega) v2 h2 (by simp) (by simpa using o2)
theorem spec21 (hT : Stays T) (c : Cl21 D) (s29 : SpecPlain D 29 T) : SpecExt D 21 T := by
  intro s sig h k kp r ht hk
  refine c _ _ _ _ ?_
  unfold F21
  have hlen := r.len
  refine s29 _ _ _ _ _ r ht fun h1 e1 => ⟨_, rfl, ?_⟩
  rw [cond_ne]
  refine ⟨fun hne => hk _ h1 e1 (by unfold extV; rw [if_neg hne]; exact BufK.nil_), fun h0 => ?_⟩
  have hn := (chkSig_named (plain_ok h0).1).2
  have hl64 := (plain_ok h0).2
  refine (Hp.nil_ h).later e1 |>.newSlK (sz := 2) fun s1 h2 o1 => ?_
  have r1 := r.row.ext o1.ext
  rw [r1.slen]
  refine r1.src (Nat.le_refl _) ?_
  rw [List.take_length]
  refine o1.appK (i := 0) rfl rfl (sg_all sig) (sg_two sig) rfl rfl (by decide) (by rw [sgRow_len]; simp; omega) fun s2 h2 o2 => ?_
  intro I hI
  have key := down_ind (P := fun j => ∀ (v : Value) (h' : H), Hp h h' [bufK 2 v (sgRow (sig ++ (sig.take j).map markS))] → I [s, v, .int .i64 ((j : Nat) : Int)] h') sig.length
    fun j hj ih2 v h' o' => by
    refine hI _ _ _ _ ?_
    unfold round21_6
    rw [intK_int, (r.ext o'.ext).row.len, sgRow_len, cond_dec]
    refine ⟨fun hlt => ?_, fun hge => ?_⟩
    · refine (r.ext o'.ext).row.at_ (by omega) (by rw [sgRow_len]; omega) fun ad w hw hrd hjx => ?_
      rw [Int.toNat_natCast] at hw
      obtain ⟨x, hx, rfl⟩ := sgRow_at hw
      have hxm := List.mem_of_getElem? hx
      have hsz := named_size (hn x hxm).1
      have h1 : (ByteArray.mk #[35]).size = 1 := rfl
      refine ⟨x.1, hjx 0 _ rfl, by rw [h1]; omega, ?_⟩
      refine (r.ext o'.ext).row.at_ (by omega) (by rw [sgRow_len]; omega) fun ad w hw hrd hjx => ?_
      rw [Int.toNat_natCast] at hw
      obtain ⟨x', hx', rfl⟩ := sgRow_at hw
      rw [hx] at hx'
      obtain rfl := Option.some.inj hx'
      refine ⟨x.2, hjx 1 _ rfl, rfl, by decide, rfl, by decide, rfl, by decide, ?_⟩
      refine o'.pushK (i := 0) rfl rfl rfl (by decide) (by rw [sgRow_len]; simp; omega) rfl fun v4 h4 o4 => ?_
      rw [i64_id (by omega) (by omega)]
      refine ih2 (by omega) v4 h4 ?_
      rw [← ext_grow hx]; exact o4
    · dsimp only
      rw [xs_e]
      show cond true _ _
      rw [cond_true, nth0]
      rw [List.take_of_length_le (by omega)] at o'
      have := hk v h' o'.ext (by
        have e : extV sig = sig ++ sig.map markS := if_pos h0
        rw [e]
        exact (o'.bufK_ (i := 0) rfl).of_new fun d hd => (o'.new _ (List.mem_cons_self ..) d hd).1)
      rw [h0] at this
      exact this
  exact key 0 (by omega) s2 _ (by simpa using o2)
end Go.Proofs.YtnlhnlmnlfmojaaDoor.Am

namespace Go.Proofs.YtnlhnlmnlfmojaaDoor.Am
open Go Go.Proofs Sys Go.Lib
set_option linter.unusedVariables false
set_option linter.unusedSimpArgs false
set_option maxRecDepth 100000
variable {D : Orc} {T : H → Prop}

theorem scan_at (sig : Sg) : ∀ (l : List Int) (n i : Nat), scan sig n l = 0 → i < l.length → ∃ u r, l.drop i = u ++ r ∧ isTerm sig u
  | [], n, i, _, hi => by simp at hi
  | c :: l, 0, i, h, _ => by simp [scan] at h
  | c :: l, n + 1, 0, h, _ => by
    obtain ⟨us, h1, h2, h3⟩ := split_terms (sig := sig) (n + 1) (c :: l) h
    cases us with
    | nil => simp at h1
    | cons u us => exact ⟨u, us.flatten, by rw [List.drop_zero, ← h3, List.flatten_cons], h2 u (by simp)⟩
  | c :: l, n + 1, i + 1, h, hi => by
    unfold scan at h
    split at h
    · cases h
    · exact scan_at sig l _ i h (by simpa using hi)
theorem nth5 {a b c d e f : Value} {l : List Value} : nth (a :: b :: c :: d :: e :: f :: l) 5 = f := rfl
theorem nth8 {a b c d e f g i j : Value} {l : List Value} : nth (a :: b :: c :: d :: e :: f :: g :: i :: j :: l) 8 = j := rfl
theorem nth9 {a b c d e f g i j m : Value} {l : List Value} : nth (a :: b :: c :: d :: e :: f :: g :: i :: j :: m :: l) 9 = m := rfl
theorem nth7 {a b c d e f g i : Value} {l : List Value} : nth (a :: b :: c :: d :: e :: f :: g :: i :: l) 7 = i := rfl
theorem nth6 {a b c d e f g : Value} {l : List Value} : nth (a :: b :: c :: d :: e :: f :: g :: l) 6 = g := rfl
/-- A new place of two cells, laid at once. -/
theorem Hp.two {h0 h : H} {L : List Res} (o : Hp h0 h L) {z1 z2 u v : Value} (hu : one u = true) (hv : one v = true) {T : Prop} (hT : T) {K : Value → H → Prop} (hK : ∀ b h', h b = none → Hp h0 h' (cellR b [u, v] :: L) → K (Pt b) h') :
    newW h [z1, z2] (fun p h9 => ptrW p (fun ad => T ∧ List.all [u, v] one = true ∧ ∃ h11, Am.wr h9 ad [u, v] = some h11 ∧ K p h11)) :=
  two_rule hu hv hT fun b h' hb hb' e => hK b h' hb (o.add e.keeps hb' fun c hc => by
    have hc : c = b := hc
    subst hc
    exact ⟨hb, by rw [hb']; simp⟩)
theorem exS {φ : Value → Prop} : exR Tryd.prog (resTypes Tryd.prog 30) φ = ∃ x : Value, φ x := by kernel_rfl
theorem callS {g : Nat} {caps : Array Value} {args : List Value} {h : H} {k : Kv} {kp : Kp} (hb : hasBody Tryd.prog g = true) (hk : D g (args ++ caps.toList) h (fun v h' => ∃ b : Value, v = b ∧ k b h') kp) :
    callV Tryd.prog D 30 (.func (.func g) #[] caps) args h k kp := by
  unfold callV
  dsimp only
  unfold callW
  rw [hb]
  dsimp only
  simp only [exS, List.nil_append]
  exact hk
theorem body_mark : hasBody Tryd.prog 47 = true := by kernel_rfl

/-! ### what the pairs are -/
def gP (S : Sm) (r : Ru) (k : Nat) : Option Ru := (r.2[k]?).bind fun c => if c ∈ defL S then some (markT (S.sig.length : Int) r.1, markT (S.sig.length : Int) (subT (S2 S.sig) r.2 k)) else none
def rowP (S : Sm) (r : Ru) (j : Nat) : List Ru := (List.range j).filterMap (gP S r)
def allP (S : Sm) : List Ru := S.rules.flatMap fun r => rowP S r r.2.length
def pairsL (S : Sm) : List Ru := if (chkSys S).1 = 0 then (if 256 < (allP S).length then [] else allP S) else []
def pairsE (S : Sm) : Int := if (chkSys S).1 = 0 then (if 256 < (allP S).length then 2 else 0) else (chkSys S).1
theorem rowP_succ {S : Sm} {r : Ru} {j : Nat} : rowP S r (j + 1) = rowP S r j ++ (gP S r j).toList := by
  unfold rowP
  rw [List.range_succ, List.filterMap_append]
  cases h : gP S r j <;> simp [h]
theorem rowP_pre {S : Sm} {r : Ru} {j : Nat} : ∀ n, j + n ≤ r.2.length → (rowP S r j).length ≤ (rowP S r (j + n)).length
  | 0, _ => Nat.le_refl _
  | n + 1, h => by
    have := rowP_pre (S := S) (r := r) (j := j) n (by omega)
    rw [show j + (n + 1) = (j + n) + 1 by omega, rowP_succ, List.length_append]; omega
theorem all_pre {S : Sm} {r : Ru} {j i : Nat} (hr : S.rules[j]? = some r) (hi : i ≤ r.2.length) : ((S.rules.take j).flatMap (fun r => rowP S r r.2.length) ++ rowP S r i).length ≤ (allP S).length := by
  have h1 : (allP S) = (S.rules.take j).flatMap (fun r => rowP S r r.2.length) ++ (rowP S r r.2.length ++ (S.rules.drop (j + 1)).flatMap (fun r => rowP S r r.2.length)) := by
    unfold allP
    conv => lhs; rw [(split_at hr).1]
    rw [List.flatMap_append, List.flatMap_cons]
  have h2 := rowP_pre (S := S) (r := r) (j := i) (r.2.length - i) (by omega)
  rw [show i + (r.2.length - i) = r.2.length by omega] at h2
  rw [h1]
  simp only [List.length_append]
  omega
/-- The rows of pairs that are told. -/
def prR (xs : List ((Value × Value) × Ru)) : List Res := xs.flatMap fun x => [bufR x.1.1 (Z x.2.1), bufR x.1.2 (Z x.2.2)]
def SpecOf (D : Orc) (f : Nat) (T : H → Prop) : Prop := ∀ va (S : Sm) h (k : Kv) kp, Ss h va S → T h → (∀ v xs h', Hp h h' (bufK 2 v (ruRow (xs.map Prod.fst)) :: prR xs) → xs.map Prod.snd = pairsL S → k (.tuple #[v, .int .i64 (pairsE S)]) h') → D f [va] h k kp
theorem pr_more {xs : List ((Value × Value) × Ru)} {v u w : Value} {x : Ru} {A : List Res} : (A ++ (bufK 2 v (ruRow ((xs ++ [((u, w), x)]).map Prod.fst)) :: prR (xs ++ [((u, w), x)]))).Perm (bufR w (Z x.2) :: bufR u (Z x.1) :: (A ++ (bufK 2 v (ruRow (xs.map Prod.fst) ++ [[u, w]]) :: prR xs))) := by
  have e1 : ruRow ((xs ++ [((u, w), x)]).map Prod.fst) = ruRow (xs.map Prod.fst) ++ [[u, w]] := by simp [ruRow]
  have e2 : prR (xs ++ [((u, w), x)]) = prR xs ++ [bufR u (Z x.1), bufR w (Z x.2)] := by simp [prR]
  rw [e1, e2]
  have h1 : (A ++ (bufK 2 v (ruRow (xs.map Prod.fst) ++ [[u, w]]) :: (prR xs ++ [bufR u (Z x.1), bufR w (Z x.2)]))) = (A ++ (bufK 2 v (ruRow (xs.map Prod.fst) ++ [[u, w]]) :: prR xs)) ++ [bufR u (Z x.1), bufR w (Z x.2)] := by simp
  rw [h1]
  exact List.perm_append_comm.trans (.swap _ _ _)
theorem right_sys {S : Sm} (h : (chkSys S).1 = 0) : rightS S = true := by unfold rightS; rw [h]; rfl
theorem sub_fit {S : Sm} (h : (chkSys S).1 = 0) {r : Ru} (hr : r ∈ S.rules) {k : Nat} (hk : k < r.2.length) : placeE S.sig r.2 (k : Int) = 0 ∧ ∃ u w, r.2.drop k = u ++ w ∧ isTerm (S2 S.sig) u ∧ subT (S2 S.sig) r.2 k = u := by
  obtain ⟨h1, h2, h3, h4⟩ := right_ok (right_sys h)
  obtain ⟨q1, q2, q3, q4, _⟩ := ruleE_ok (h4 r hr)
  obtain ⟨u, w, hd, hu⟩ := scan_at (S2 S.sig) r.2 1 k q2 hk
  refine ⟨?_, u, w, hd, hu, subT_of hd hu⟩
  unfold placeE chkTerm
  rw [if_neg (show ¬ chkSig S.sig ≠ 0 by simpa using h2), if_neg (by simpa using q2), if_neg (by omega)]
theorem term_head {sig : List Sy} {u : List Int} (hu : isTerm (S2 sig) u) : u ≠ [] ∧ -1048576 ≤ u.headD 0 ∧ u.headD 0 < sig.length := by
  cases u with
  | nil => exact absurd rfl (isTerm_ne hu)
  | cons c t =>
    have hc := scan_codes (S2 sig) _ 1 hu c (by simp)
    rw [S2_len] at hc
    exact ⟨by simp, hc⟩
theorem mark_rng {sig : List Sy} {u : List Int} (hu : isTerm (S2 sig) u) (hs : sig.length ≤ 64) : inI (u.headD 0 + (sig.length : Int)) := by
  have := (term_head hu).2
  unfold inI; omega
theorem Z_inj {l m : List Int} (h : Z l = Z m) : l = m := by
  unfold Z at h
  exact List.map_inj_right (fun a b hab => by injection hab) |>.mp h
theorem spec22 (hT : Stays T) (c : Cl22 D) (s10 : SpecSys D 10 T) (s12 : SpecDef D 12 T) (h49 : SpecHasI D 49) (s50 : SpecSub D 50 T) (c47 : Cl47 D) (c48 : Cl48 D) : SpecOf D 22 T := by
  intro va S h k kp hS ht hk
  refine c _ _ _ _ ?_
  obtain ⟨sa, ra, rfl, hsa, hra⟩ := hS.ex
  unfold F22
  rw [aggW_agg]
  intro p1 hp1
  have e1 : Ext h (h.set p1 (.cells #[sa, ra].toList)) := Ext.new hp1
  have b1 : (h.set p1 (.cells #[sa, ra].toList)) p1 = some (.cells [sa, ra]) := set_here
  generalize h.set p1 (.cells #[sa, ra].toList) = h1 at e1 b1 ⊢
  rw [ptrW_ptr]
  refine ⟨sa, ra, rd2 b1, ?_⟩
  refine s10 _ S _ _ _ (hS.ext e1) (hT _ _ e1 ht) fun h2 e2 => ⟨_, _, rfl, ?_⟩
  have e12 := e1.trans e2
  have no : ∀ e, pairsE S = e → pairsL S = [] → ∀ h', Ext h h' → k (.tuple #[.slice none 0 0, .int .i64 e]) h' := fun e he hl h' e' => by
    have := hk (.slice none 0 0) [] h' (((Hp.nil_ h).later e').add_nilK) (by rw [hl]; rfl)
    rw [he] at this; exact this
  rw [cond_ne]
  refine ⟨fun hne => no _ (by unfold pairsE; rw [if_neg hne]) (by unfold pairsL; rw [if_neg hne]) h2 e12, fun h0 => ?_⟩
  rw [ptrW_ptr]
  refine ⟨sa, ra, rd2 (e2 _ _ b1), ?_⟩
  refine s12 _ S _ _ _ (hS.ext e12) (hT _ _ e12 ht) fun dv h3 hd e3 _ => ⟨_, rfl, ?_⟩
  have e13 := e12.trans e3
  have b3 := e3 _ _ (e2 _ _ b1)
  refine ldj b3 rfl ?_
  have hra3 := hra.ext e13
  rw [hra3.len_]
  obtain ⟨g1, g2, g3, g4⟩ := right_ok (right_sys h0)
  have hs64 := (plain_ok g1).2
  intro I hI
  have key := down_ind (P := fun j => ∀ (v : Value) (xs : List ((Value × Value) × Ru)) (h' : H), Hp h3 h' (bufK 2 v (ruRow (xs.map Prod.fst)) :: prR xs) → xs.length ≤ 256 → xs.map Prod.snd = (S.rules.take j).flatMap (fun r => rowP S r r.2.length) →
      I [Pt p1, dv, .func (.func 47) #[] #[Pt p1], v, ra, .int .i64 ((S.rules.length : Nat) : Int), .int .i64 ((j : Nat) : Int)] h') S.rules.length
    fun j hj ih2 v xs h' o' hx256 hxs => by
    refine hI _ _ _ _ _ _ _ _ ?_
    unfold round22_8
    rw [intK_int, intK_int, cond_dec]
    refine ⟨fun hlt => ?_, fun hge => ?_⟩
    · obtain ⟨vs, rk, hvl, hvi⟩ := hra3.ex
      refine (rk.ext o'.ext).at_ (by omega) (by rw [ruRow_len]; omega) fun ad w hw hrd _ => ?_
      rw [Int.toNat_natCast] at hw
      simp only [ruRow, List.getElem?_map, Option.map_eq_some_iff] at hw
      obtain ⟨⟨lv, rv⟩, hv, rfl⟩ := hw
      obtain ⟨r, hr, il, ir⟩ := hvi _ _ hv
      have il : Ir h3 lv r.1 := il
      have ir : Ir h3 rv r.2 := ir
      have hrm := List.mem_of_getElem? hr
      have hrok := ruleE_ok (g4 r hrm)
      have hrl := ir.len
      refine ⟨lv, rv, hrd, o'.two (sl_one' il.row) (sl_one' ir.row) rfl fun p2 h4 hp2 o4 => ?_⟩
      refine ldj (o4.cell (i := 0) rfl) rfl ?_
      rw [(ir.ext o4.ext).len_]
      intro I2 hI2
      have key2 := down_ind (P := fun i => ∀ (v : Value) (xs : List ((Value × Value) × Ru)) (h' : H), Hp h3 h' (cellR p2 [lv, rv] :: bufK 2 v (ruRow (xs.map Prod.fst)) :: prR xs) → xs.length ≤ 256 → xs.map Prod.snd = (S.rules.take j).flatMap (fun r => rowP S r r.2.length) ++ rowP S r i →
          I2 [Pt p1, dv, .func (.func 47) #[] #[Pt p1], v, Pt p2, ra, .int .i64 ((S.rules.length : Nat) : Int), .int .i64 ((j : Nat) : Int), rv, .int .i64 ((r.2.length : Nat) : Int), .int .i64 ((i : Nat) : Int)] h') r.2.length
        fun i hi ih3 v xs h' o' hx256 hxs => by
        refine hI2 _ _ _ _ _ _ _ _ _ _ _ _ ?_
        unfold round22_11
        rw [intK_int, intK_int, intK_int, intK_int, cond_dec]
        refine ⟨fun hlt2 => ?_, fun hge2 => ?_⟩
        · have hi1 : i < r.2.length := by omega
          refine (ir.ext o'.ext).at_ (by omega) (by omega) fun ad x hx hxi hrd => ⟨x, hrd, ?_⟩
          rw [Int.toNat_natCast] at hx
          refine h49 _ _ _ _ _ _ (hd.ext o'.ext) ⟨_, rfl, ?_⟩
          have hxl : xs.length = (xs.map Prod.snd).length := by simp
          have go : ∀ {K : Kl} (v : Value) (xs : List ((Value × Value) × Ru)) (h' : H), Hp h3 h' (cellR p2 [lv, rv] :: bufK 2 v (ruRow (xs.map Prod.fst)) :: prR xs) → xs.length ≤ 256 → xs.map Prod.snd = (S.rules.take j).flatMap (fun r => rowP S r r.2.length) ++ rowP S r (i + 1) →
              j22_11_18 D I2 K (Pt p1) dv (.func (.func 47) #[] #[Pt p1]) v (Pt p2) ra (.int .i64 ((S.rules.length : Nat) : Int)) (.int .i64 ((j : Nat) : Int)) rv (.int .i64 ((r.2.length : Nat) : Int)) (.int .i64 ((i : Nat) : Int)) h' := fun v xs h' o' hx256 hxs => by
            unfold j22_11_18
            rw [intK_int, intK_int, intK_int, intK_int, i64_id (by omega) (by omega)]
            exact ih3 hi1 v xs h' o' hx256 hxs
          by_cases hmem : x ∈ defL S
          · rw [decide_eq_true hmem, Bool.not_true, cond_false]
            rw [(o'.rowK (i := 1) rfl).len, ruRow_len, List.length_map, cond_eq]
            obtain ⟨hpl, u, w, hdu, hu, hsub⟩ := sub_fit h0 hrm hi1
            have hg : gP S r i = some (markT (S.sig.length : Int) r.1, markT (S.sig.length : Int) u) := by
              unfold gP
              rw [hx, Option.bind_some, if_pos hmem, hsub]
            have hsucc : rowP S r (i + 1) = rowP S r i ++ [(markT (S.sig.length : Int) r.1, markT (S.sig.length : Int) u)] := by rw [rowP_succ, hg]; rfl
            refine ⟨fun hfull => ?_, fun hroom => ?_⟩
            · dsimp only
              rw [xs_r, nth0, nth1, intK_int]
              have hov : 256 < (allP S).length := by
                have h1 := all_pre hr (show i + 1 ≤ r.2.length by omega)
                rw [hsucc, ← List.append_assoc, ← hxs, List.length_append, List.length_map] at h1
                simp only [List.length_singleton] at h1
                omega
              refine no 2 ?_ ?_ h' (e13.trans o'.ext)
              · unfold pairsE; rw [if_pos h0, if_pos hov]
              · unfold pairsL; rw [if_pos h0, if_pos hov]
            · have b4 := o'.ext _ _ b3
              refine ldj b4 rfl (ldj (o'.cell (i := 0) rfl) rfl ?_)
              refine s50 _ _ S.sig r.2 _ _ _ _ (by unfold inI; omega) (hsa.ext (e13.trans o'.ext)) (hT _ _ (e13.trans o'.ext) ht) (ir.ext o'.ext) fun v5 h5 e5 b5 => ⟨_, _, rfl, ?_⟩
              have hsv : subV S.sig r.2 (i : Int) = u := by unfold subV; rw [if_pos hpl, Int.toNat_natCast, hsub]
              rw [hsv] at b5
              have o5 := o'.later e5
              refine ldj (o5.cell (i := 0) rfl) rfl (callS body_mark ?_)
              have hul : u.length ≤ r.2.length := by
                have h1 := congrArg List.length hdu
                simp only [List.length_drop, List.length_append] at h1
                omega
              have iu : Ir h5 v5 u := ⟨b5.row, by omega, fun y hy => ir.rng y (List.mem_of_mem_drop (i := i) (by rw [hdu]; simp [hy]))⟩
              refine spec47 c47 c48 (il.ext o5.ext) (isTerm_ne hrok.1) (o5.ext _ _ b3) (hsa.ext (e13.trans o5.ext)) (mark_rng hrok.1 hs64) fun v6 h6 e6 b6 => ⟨_, rfl, callS body_mark ?_⟩
              have o6 := o5.add_buf e6 b6
              refine spec47 c47 c48 (iu.ext e6) (isTerm_ne hu) (o6.ext _ _ b3) (hsa.ext (e13.trans o6.ext)) (mark_rng hu hs64) fun v7 h7 e7 b7 => ⟨_, rfl, ?_⟩
              have o7 := o6.add_buf e7 b7
              refine ⟨sl_one' b6.row, by decide, sl_one' b7.row, by decide, rfl, by decide, ?_⟩
              refine o7.pushK (i := 3) rfl rfl rfl (by decide) (by rw [ruRow_len, List.length_map]; omega) (by simp [sl_one' b6.row, sl_one' b7.row]) fun v8 h8 o8 => ?_
              refine go v8 (xs ++ [((v6, v7), (markT (S.sig.length : Int) r.1, markT (S.sig.length : Int) u))]) h8 ?_ (by simp; omega) ?_
              · exact o8.perm (pr_more (A := [cellR p2 [lv, rv]]))
              · rw [List.map_append, hxs, hsucc, List.append_assoc]; rfl
          · rw [decide_eq_false hmem, Bool.not_false, cond_true]
            refine go v xs h' o' hx256 ?_
            rw [hxs, rowP_succ]
            have hg : gP S r i = none := by
              unfold gP
              rw [hx, Option.bind_some, if_neg hmem]
            rw [hg]; simp
        · dsimp only
          rw [xs_e]
          show cond true _ _
          rw [cond_true, nth0, nth1, nth2, nth3, nth4]
          rw [nth5, nth6, intK_int, intK_int, i64_id (by omega) (by omega)]
          refine ih2 (by omega) v xs h' (o'.sub (List.sublist_cons_self _ _)) hx256 ?_
          rw [hxs, (split_at hr).2.1, List.flatMap_append]
          obtain rfl : i = r.2.length := by omega
          simp
      exact key2 0 (by omega) v xs h4 o4 hx256 (by rw [hxs]; simp [rowP])
    · dsimp only
      rw [xs_e]
      show cond true _ _
      rw [cond_true, nth0]
      rw [List.take_of_length_le (by omega)] at hxs
      have hal : xs.map Prod.snd = allP S := hxs
      have hlen : (allP S).length ≤ 256 := by rw [← hal]; simpa using hx256
      have := hk v xs h' (o'.base e13) (by unfold pairsL; rw [if_pos h0, if_neg (by omega)]; exact hal)
      have he : pairsE S = 0 := by unfold pairsE; rw [if_pos h0, if_neg (by omega)]
      rw [he] at this
      exact this
  exact key 0 (by omega) _ [] h3 (((Hp.nil_ h3)).add_nilK) (by simp) (by simp)
end Go.Proofs.YtnlhnlmnlfmojaaDoor.Am

namespace Go.Proofs.YtnlhnlmnlfmojaaDoor.Am
open Go Go.Proofs Sys Go.Lib
set_option linter.unusedVariables false
set_option linter.unusedSimpArgs false
set_option maxRecDepth 100000
variable {D : Orc} {T : H → Prop}

theorem spec23 (hT : Stays T) (c : Cl23 D) (s11 : SpecSys D 11 T) (s13 : SpecDef D 13 T) (h51 : SpecHasI D 51) (s53 : SpecEndT D 53) (c52 : Cl52 D) : SpecOf D 23 T := by
  intro va S h k kp hS ht hk
  refine c _ _ _ _ ?_
  obtain ⟨sa, ra, rfl, hsa, hra⟩ := hS.ex
  unfold F23
  rw [aggW_agg]
  intro p1 hp1
  have e1 : Ext h (h.set p1 (.cells #[sa, ra].toList)) := Ext.new hp1
  have b1 : (h.set p1 (.cells #[sa, ra].toList)) p1 = some (.cells [sa, ra]) := set_here
  generalize h.set p1 (.cells #[sa, ra].toList) = h1 at e1 b1 ⊢
  rw [ptrW_ptr]
  refine ⟨sa, ra, rd2 b1, ?_⟩
  refine s11 _ S _ _ _ (hS.ext e1) (hT _ _ e1 ht) fun h2 e2 => ⟨_, _, rfl, ?_⟩
  have e12 := e1.trans e2
  have no : ∀ e, pairsE S = e → pairsL S = [] → ∀ h', Ext h h' → k (.tuple #[.slice none 0 0, .int .i64 e]) h' := fun e he hl h' e' => by
    have := hk (.slice none 0 0) [] h' (((Hp.nil_ h).later e').add_nilK) (by rw [hl]; rfl)
    rw [he] at this; exact this
  rw [cond_ne]
  refine ⟨fun hne => no _ (by unfold pairsE; rw [if_neg hne]) (by unfold pairsL; rw [if_neg hne]) h2 e12, fun h0 => ?_⟩
  rw [ptrW_ptr]
  refine ⟨sa, ra, rd2 (e2 _ _ b1), ?_⟩
  refine s13 _ S _ _ _ (hS.ext e12) (hT _ _ e12 ht) fun dv h3 hd e3 _ => ⟨_, rfl, ?_⟩
  have e13 := e12.trans e3
  have b3 := e3 _ _ (e2 _ _ b1)
  refine ldj b3 rfl ?_
  have hra3 := hra.ext e13
  have hsa3 := hsa.ext e13
  rw [hsa3.row.len, sgRow_len]
  obtain ⟨g1, g2, g3, g4⟩ := right_ok (right_sys h0)
  have hs64 := (plain_ok g1).2
  have har := ar_of g2
  intro I hI
  have key := down_ind (P := fun j => ∀ (v : Value) (xs : List ((Value × Value) × Ru)) (h' : H), Hp h3 h' (bufK 2 v (ruRow (xs.map Prod.fst)) :: prR xs) → xs.length ≤ 256 → xs.map Prod.snd = (S.rules.take j).flatMap (fun r => rowP S r r.2.length) →
      I [Pt p1, dv, .int .i64 ((S.sig.length : Nat) : Int), v, .int .i64 ((j : Nat) : Int)] h') S.rules.length
    fun j hj ih2 v xs h' o' hx256 hxs => by
    refine hI _ _ _ _ _ _ ?_
    unfold round23_8
    rw [intK_int, intK_int]
    refine ldj (o'.ext _ _ b3) rfl ?_
    rw [(hra3.ext o'.ext).len_, cond_dec]
    refine ⟨fun hlt => ?_, fun hge => ?_⟩
    · refine ldj (o'.ext _ _ b3) rfl ?_
      obtain ⟨vs, rk, hvl, hvi⟩ := hra3.ex
      refine (rk.ext o'.ext).at_ (by omega) (by rw [ruRow_len]; omega) fun ad w hw _ hjx => ?_
      rw [Int.toNat_natCast] at hw
      simp only [ruRow, List.getElem?_map, Option.map_eq_some_iff] at hw
      obtain ⟨⟨lv, rv⟩, hv, rfl⟩ := hw
      obtain ⟨r, hr, il, ir⟩ := hvi _ _ hv
      have il : Ir h3 lv r.1 := il
      have ir : Ir h3 rv r.2 := ir
      have hrm := List.mem_of_getElem? hr
      have hrok := ruleE_ok (g4 r hrm)
      have hrl := ir.len
      refine ⟨rv, hjx 1 _ rfl, ?_⟩
      intro I2 hI2
      have key2 := down_ind (P := fun i => ∀ (v : Value) (xs : List ((Value × Value) × Ru)) (h' : H), Hp h3 h' (bufK 2 v (ruRow (xs.map Prod.fst)) :: prR xs) → xs.length ≤ 256 → xs.map Prod.snd = (S.rules.take j).flatMap (fun r => rowP S r r.2.length) ++ rowP S r i →
          I2 [Pt p1, dv, .int .i64 ((S.sig.length : Nat) : Int), v, .int .i64 ((j : Nat) : Int), rv, .int .i64 ((i : Nat) : Int)] h') r.2.length
        fun i hi ih3 v xs h' o' hx256 hxs => by
        refine hI2 _ _ _ _ _ _ _ _ ?_
        unfold round23_12
        rw [intK_int, intK_int, intK_int, (ir.ext o'.ext).len_, cond_dec]
        refine ⟨fun hlt2 => ?_, fun hge2 => ?_⟩
        · have hi1 : i < r.2.length := by omega
          refine (ir.ext o'.ext).at_ (by omega) (by omega) fun ad x hx hxi hrd => ⟨x, hrd, ?_⟩
          rw [Int.toNat_natCast] at hx
          refine h51 _ _ _ _ _ _ (hd.ext o'.ext) ⟨_, rfl, ?_⟩
          have go : ∀ {K : Kl} (v : Value) (xs : List ((Value × Value) × Ru)) (h' : H), Hp h3 h' (bufK 2 v (ruRow (xs.map Prod.fst)) :: prR xs) → xs.length ≤ 256 → xs.map Prod.snd = (S.rules.take j).flatMap (fun r => rowP S r r.2.length) ++ rowP S r (i + 1) →
              j23_12_13 D I2 K (Pt p1) dv (.int .i64 ((S.sig.length : Nat) : Int)) v (.int .i64 ((j : Nat) : Int)) rv (.int .i64 ((i : Nat) : Int)) h' := fun v xs h' o' hx256 hxs => by
            unfold j23_12_13
            rw [intK_int, intK_int, intK_int, i64_id (by omega) (by omega)]
            exact ih3 hi1 v xs h' o' hx256 hxs
          by_cases hmem : x ∈ defL S
          · rw [decide_eq_true hmem, Bool.not_true, cond_false]
            rw [(o'.rowK (i := 0) rfl).len, ruRow_len, List.length_map, cond_eq]
            obtain ⟨hpl, u, w, hdu, hu, hsub⟩ := sub_fit h0 hrm hi1
            have hg : gP S r i = some (markT (S.sig.length : Int) r.1, markT (S.sig.length : Int) u) := by
              unfold gP
              rw [hx, Option.bind_some, if_pos hmem, hsub]
            have hsucc : rowP S r (i + 1) = rowP S r i ++ [(markT (S.sig.length : Int) r.1, markT (S.sig.length : Int) u)] := by rw [rowP_succ, hg]; rfl
            refine ⟨fun hfull => ?_, fun hroom => ?_⟩
            · dsimp only
              rw [xs_r, nth0, nth1, intK_int]
              have hov : 256 < (allP S).length := by
                have h1 := all_pre hr (show i + 1 ≤ r.2.length by omega)
                rw [hsucc, ← List.append_assoc, ← hxs, List.length_append, List.length_map] at h1
                simp only [List.length_singleton] at h1
                omega
              refine no 2 ?_ ?_ h' (e13.trans o'.ext)
              · unfold pairsE; rw [if_pos h0, if_pos hov]
              · unfold pairsL; rw [if_pos h0, if_pos hov]
            · refine ldj (o'.ext _ _ b3) rfl ?_
              refine (rk.ext o'.ext).at_ (by omega) (by rw [ruRow_len]; omega) fun ad w' hw' _ hjx' => ?_
              rw [Int.toNat_natCast] at hw'
              simp only [ruRow, List.getElem?_map, Option.map_eq_some_iff] at hw'
              obtain ⟨⟨lv', rv'⟩, hv', rfl⟩ := hw'
              rw [hv] at hv'
              obtain ⟨rfl, rfl⟩ := Prod.mk.inj (Option.some.inj hv')
              refine ⟨lv, hjx' 0 _ rfl, ?_⟩
              rw [ptrW_ptr]
              refine ⟨sa, rdc_at (o'.ext _ _ b3) rfl, ?_⟩
              have hul : i + u.length ≤ r.2.length := by
                have h1 := congrArg List.length hdu
                simp only [List.length_drop, List.length_append] at h1
                omega
              refine spec52 c52 (il.ext o'.ext) (isTerm_ne hrok.1) (mark_rng hrok.1 hs64) fun v6 h6 e6 b6 => ⟨_, rfl, rdc_at (e6 _ _ (o'.ext _ _ b3)) rfl, ?_⟩
              have o6 := o'.add_buf e6 b6
              refine s53 _ _ S.sig r.2 i u w _ _ _ (hsa3.ext o6.ext) har (ir.ext o6.ext) hdu hu ⟨_, rfl, ?_⟩
              refine (ir.ext o6.ext).row.part (i := i) (j := i + u.length) rfl (by simp) (by omega) (by rw [Z_len]; omega) fun s' hs' _ => ?_
              have hz : ((Z r.2).take (i + u.length)).drop i = Z u := by
                unfold Z
                rw [← List.map_take, ← List.map_drop, List.drop_take, hdu]
                simp
              rw [hz] at hs'
              have iu : Ir h6 s' u := ⟨hs', by omega, fun y hy => ir.rng y (List.mem_of_mem_drop (i := i) (by rw [hdu]; simp [hy]))⟩
              refine spec52 c52 iu (isTerm_ne hu) (mark_rng hu hs64) fun v7 h7 e7 b7 => ⟨_, rfl, ?_⟩
              have o7 := o6.add_buf e7 b7
              refine ⟨sl_one' b6.row, by decide, sl_one' b7.row, by decide, rfl, by decide, ?_⟩
              refine o7.pushK (i := 2) rfl rfl rfl (by decide) (by rw [ruRow_len, List.length_map]; omega) (by simp [sl_one' b6.row, sl_one' b7.row]) fun v8 h8 o8 => ?_
              refine go v8 (xs ++ [((v6, v7), (markT (S.sig.length : Int) r.1, markT (S.sig.length : Int) u))]) h8 ?_ (by simp; omega) ?_
              · exact o8.perm (pr_more (A := []))
              · rw [List.map_append, hxs, hsucc, List.append_assoc]; rfl
          · rw [decide_eq_false hmem, Bool.not_false, cond_true]
            refine go v xs h' o' hx256 ?_
            rw [hxs, rowP_succ]
            have hg : gP S r i = none := by
              unfold gP
              rw [hx, Option.bind_some, if_neg hmem]
            rw [hg]; simp
        · dsimp only
          rw [xs_e]
          show cond true _ _
          rw [cond_true, nth0, nth1, nth2, nth3, nth4, intK_int, intK_int, i64_id (by omega) (by omega)]
          refine ih2 (by omega) v xs h' o' hx256 ?_
          rw [hxs, (split_at hr).2.1, List.flatMap_append]
          obtain rfl : i = r.2.length := by omega
          simp
      exact key2 0 (by omega) v xs h' o' hx256 (by rw [hxs]; simp [rowP])
    · dsimp only
      rw [xs_e]
      show cond true _ _
      rw [cond_true, nth0]
      rw [List.take_of_length_le (by omega)] at hxs
      have hal : xs.map Prod.snd = allP S := hxs
      have hlen : (allP S).length ≤ 256 := by rw [← hal]; simpa using hx256
      have := hk v xs h' (o'.base e13) (by unfold pairsL; rw [if_pos h0, if_neg (by omega)]; exact hal)
      have he : pairsE S = 0 := by unfold pairsE; rw [if_pos h0, if_neg (by omega)]
      rw [he] at this
      exact this
  exact key 0 (by omega) _ [] h3 (((Hp.nil_ h3)).add_nilK) (by simp) (by simp)
end Go.Proofs.YtnlhnlmnlfmojaaDoor.Am

namespace Go.Proofs.Sys
/-- What becomes of a row: a variable for each variable, and for each term with a symbol of the list at its root. -/
inductive Cap (sig : Sg) (d : List Int) : List Int → Nat → List Int → Nat → Prop
  | nil {f : Nat} : Cap sig d [] f [] f
  | cut {c : Int} {u r o : List Int} {f g : Nat} : (c < 0 ∨ c ∈ d) → isTerm sig (c :: u) → Cap sig d r (f + 1) o g → Cap sig d ((c :: u) ++ r) f ((-1 - (f : Int)) :: o) g
  | keep {c : Int} {r o : List Int} {f g : Nat} : 0 ≤ c → c ∉ d → Cap sig d r f o g → Cap sig d (c :: r) f (c :: o) g
variable {sig : Sg} {d : List Int}
theorem Cap.fn {l o : List Int} {f g : Nat} (h : Cap sig d l f o g) : ∀ {o' : List Int} {g' : Nat}, Cap sig d l f o' g' → o = o' ∧ g = g' := by
  induction h with
  | nil =>
    intro o' g' h'
    generalize hl : ([] : List Int) = l at h'
    cases h' with
    | nil => exact ⟨rfl, rfl⟩
    | cut => cases hl
    | keep => cases hl
  | @cut c u r o f g hc hu h1 ih =>
    intro o' g' h'
    generalize hl : (c :: u) ++ r = l at h'
    cases h' with
    | nil => cases hl
    | cut hc' hu' h1' =>
      obtain ⟨e1, e2⟩ := term_prefix hu hu' hl
      subst e2
      obtain ⟨e3, e4⟩ := ih h1'
      subst e3; subst e4; exact ⟨rfl, rfl⟩
    | keep h0 hn _ =>
      have := (List.cons.inj hl).1
      subst this
      rcases hc with hc | hc
      · omega
      · exact absurd hc hn
  | @keep c r o f g h0 hn h1 ih =>
    intro o' g' h'
    generalize hl : c :: r = l at h'
    cases h' with
    | nil => cases hl
    | cut hc' hu' h1' =>
      have := (List.cons.inj hl).1
      subst this
      rcases hc' with hc | hc
      · omega
      · exact absurd hc hn
    | keep h0' hn' h1' =>
      obtain ⟨e1, e2⟩ := List.cons.inj hl
      subst e1; subst e2
      obtain ⟨e3, e4⟩ := ih h1'
      subst e3; subst e4; exact ⟨rfl, rfl⟩
theorem Cap.app {a o : List Int} {f g : Nat} (h : Cap sig d a f o g) : ∀ {b o' : List Int} {g' : Nat}, Cap sig d b g o' g' → Cap sig d (a ++ b) f (o ++ o') g' := by
  induction h with
  | nil => exact fun h => h
  | cut hc hu _ ih =>
    intro b o' g' h
    rw [List.append_assoc]
    exact .cut hc hu (ih h)
  | keep h0 hn _ ih => exact fun h => .keep h0 hn (ih h)
theorem Cap.len {l o : List Int} {f g : Nat} (h : Cap sig d l f o g) : o.length ≤ l.length ∧ f ≤ g ∧ g ≤ f + l.length := by
  induction h with
  | nil => simp
  | cut _ _ _ ih => simp; omega
  | keep _ _ _ ih => simp; omega
theorem Cap.one {c : Int} {u : List Int} {f : Nat} (hc : c < 0 ∨ c ∈ d) (hu : isTerm sig (c :: u)) : Cap sig d (c :: u) f [-1 - (f : Int)] (f + 1) := by
  have := Cap.cut (f := f) hc hu Cap.nil
  rwa [List.append_nil] at this
end Go.Proofs.Sys
namespace Go.Proofs.YtnlhnlmnlfmojaaDoor.Am
open Go Go.Proofs Sys Go.Lib
set_option linter.unusedVariables false
set_option linter.unusedSimpArgs false
set_option maxRecDepth 100000
variable {D : Orc} {T : H → Prop}

theorem callI {g : Nat} {caps : Array Value} {args : List Value} {h : H} {k : Kv} {kp : Kp} (hb : hasBody Tryd.prog g = true) (hk : D g (args ++ caps.toList) h (fun v h' => ∃ x : Int, v = .int .i64 x ∧ k (.int .i64 x) h') kp) :
    callV Tryd.prog D 3 (.func (.func g) #[] caps) args h k kp := by
  unfold callV
  dsimp only
  unfold callW
  rw [hb]
  dsimp only
  simp only [exI, List.nil_append]
  exact hk
theorem body_each : hasBody Tryd.prog 105 = true := by kernel_rfl
abbrev Ech (p3 p1 p5 p7 p11 : Nat) : Value := .func (.func 105) #[] #[Pt p3, Pt p1, Pt p5, Pt p7, Pt p11]
section
variable {ev nn dv tv : Value} {ext : List Sy} {d l : List Int} {h0 : H} {p1 p3 p5 p7 p11 : Nat}
abbrev echL (p1 p3 p5 p7 p11 : Nat) (v : Value) (out : List Int) (f : Nat) : List Res := [bufR v (Z out), cellR p11 [Ech p3 p1 p5 p7 p11], cellR p7 [.int .i64 ((f : Nat) : Int)], cellR p5 [v]]
def EachN (D : Orc) (ext : List Sy) (d l : List Int) (h0 : H) (p1 p3 p5 p7 p11 : Nat) (n : Nat) : Prop := ∀ (at_ f : Nat) (u r out : List Int) (v : Value) (h : H) (k : Kv) (kp : Kp), 0 < at_ → l.drop at_ = u ++ r → isTerm (S2 ext) u → u.length ≤ n → f + u.length < 2 ^ 39 → out.length + u.length < 2 ^ 39 → Hp h0 h (echL p1 p3 p5 p7 p11 v out f) →
  (∀ v' o f' h', Hp h0 h' (echL p1 p3 p5 p7 p11 v' (out ++ o) f') → Cap (S2 ext) d u f o f' → k (.int .i64 ((at_ + u.length : Nat) : Int)) h') → D 105 [.int .i64 ((at_ : Nat) : Int), Pt p3, Pt p1, Pt p5, Pt p7, Pt p11] h k kp
theorem each_node (c105 : Cl105 D) (he : Sr h0 ev ext) (ha : ArOk ext) (hl : Ir h0 tv l) (hp1 : h0 p1 = some (.cells [ev, nn, dv])) (hp3 : h0 p3 = some (.cells [tv])) {n : Nat} (ih : EachN D ext d l h0 p1 p3 p5 p7 p11 n)
    {at_ f : Nat} {c : Int} {u1 r out : List Int} {v : Value} {h : H} {k : Kv} {kp : Kp} (hc : 0 ≤ c) (hd : l.drop at_ = (c :: u1) ++ r) (hu : isTerm (S2 ext) (c :: u1)) (hn : (c :: u1).length ≤ n + 1) (hf : f + (c :: u1).length < 2 ^ 39) (hout : out.length + (c :: u1).length < 2 ^ 39) (o : Hp h0 h (echL p1 p3 p5 p7 p11 v out f))
    (hk : ∀ v' o f' h', Hp h0 h' (echL p1 p3 p5 p7 p11 v' (out ++ (c :: o)) f') → Cap (S2 ext) d u1 f o f' → k (.int .i64 ((at_ + (c :: u1).length : Nat) : Int)) h') : j105__3 D k kp (.int .i64 ((at_ : Nat) : Int)) (Pt p3) (Pt p1) (Pt p5) (Pt p7) (Pt p11) (.int .i64 c) (.bool false) h := by
  unfold j105__3
  rw [intK_int, intK_int, boolW_bool, cond_false]
  have hlen := hl.len
  have hil : at_ + (c :: u1).length ≤ l.length := by
    have h1 := congrArg List.length hd
    simp only [List.length_drop, List.length_append, List.length_cons] at h1
    simp only [List.length_cons]
    omega
  simp only [List.length_cons] at hil hn hf hout
  refine ld0 (o.cell (i := 3) rfl) rfl ⟨rfl, by decide, ?_⟩
  refine (o.push (i := 0) rfl (by decide) (by rw [Z_len]; omega) rfl (O := True) (U := True) trivial trivial fun v1 h1 o1 => ?_).2.2
  refine o1.st0 (i := 3) rfl (by simp) (sl_one' (o1.row (i := 0) rfl)) rfl fun h2 o2 => ?_
  have hz : Z out ++ [Value.int .i64 c] = Z (out ++ [c]) := by simp [Z]
  rw [hz] at o2
  have o2 : Hp h0 h2 (echL p1 p3 p5 p7 p11 v1 (out ++ [c]) f) := o2
  refine ldj (o2.ext _ _ hp1) rfl ?_
  obtain ⟨hds, hscan⟩ := scan_sym hu hc
  rw [S2_len] at hds
  obtain ⟨us, hus1, hus2, rfl⟩ := split_terms _ _ hscan
  refine (he.ext o2.ext).row.at_ (by omega) (by rw [sgRow_len]; exact hds) fun ad2 w hw _ hj => ?_
  obtain ⟨y, hy, rfl⟩ := sgRow_at hw
  refine ⟨y.2, hj 1 _ rfl, ?_⟩
  have hay := ha y (List.mem_of_getElem? hy)
  have hkid := kids_of (sig := ext) hc hy
  have e8 : (y.2 : Int) = ((us.length : Nat) : Int) := by omega
  rw [e8]
  have hus8 : us.length ≤ 8 := by omega
  have hd1 : l.drop (at_ + 1) = us.flatten ++ r := by rw [← List.drop_drop, hd]; rfl
  rw [i64_id (by omega) (by omega)]
  intro I hI
  have hnl : ∀ j, (us.take j).flatten.length + (us.drop j).flatten.length = us.flatten.length := fun j => by
    rw [← List.length_append, ← List.flatten_append, List.take_append_drop]
  have key := down_ind (P := fun j => ∀ (v' : Value) (h' : H) (o' : List Int) (f' : Nat), Hp h0 h' (echL p1 p3 p5 p7 p11 v' (out ++ (c :: o')) f') → Cap (S2 ext) d (us.take j).flatten f o' f' →
      I [.int .i64 ((at_ + 1 + (us.take j).flatten.length : Nat) : Int), Pt p11, .int .i64 ((us.length : Nat) : Int), .int .i64 ((j : Nat) : Int)] h') us.length
    fun j hj ih2 v' h' o' f' hp cp => by
    refine hI _ _ _ _ _ ?_
    unfold round105_10
    rw [intK_int, intK_int, intK_int, cond_dec]
    have cl := cp.len
    refine ⟨fun hlt => ?_, fun hge => ?_⟩
    · have hj1 : j < us.length := by omega
      have hdrop : (us.drop j).flatten = us[j] ++ (us.drop (j + 1)).flatten := by
        rw [List.drop_eq_getElem_cons hj1, List.flatten_cons]
      have htake : (us.take (j + 1)) = us.take j ++ [us[j]] := by rw [List.take_add_one, List.getElem?_eq_getElem hj1]; rfl
      have hl1 := hnl j
      have htf : (us.take (j + 1)).flatten = (us.take j).flatten ++ us[j] := by rw [htake, List.flatten_append]; simp
      rw [hdrop, List.length_append] at hl1
      have hdj : l.drop (at_ + 1 + (us.take j).flatten.length) = us[j] ++ ((us.drop (j + 1)).flatten ++ r) := by
        have hsp : us.flatten = (us.take j).flatten ++ (us.drop j).flatten := by rw [← List.flatten_append, List.take_append_drop]
        rw [← List.drop_drop, hd1]
        conv => lhs; rw [hsp]
        rw [List.append_assoc, List.drop_left, hdrop, List.append_assoc]
      refine ld0 (hp.cell (i := 1) rfl) rfl (callI body_each ?_)
      refine ih _ f' us[j] _ _ v' h' _ _ (by omega) hdj (hus2 _ (List.getElem_mem hj1)) (by omega) (by omega) (by simp; omega) hp fun v2 o2 f2 h2 hp2 cp2 => ⟨_, rfl, ?_⟩
      rw [i64_id (by omega) (by omega)]
      have := ih2 hj1 v2 h2 (o' ++ o2) f2 (by rw [List.append_assoc] at hp2; exact hp2) (by rw [htf]; exact cp.app cp2)
      rw [htf, List.length_append, ← Nat.add_assoc] at this
      exact this
    · dsimp only
      rw [xs_e]
      show cond true _ _
      rw [cond_true, nth0, intK_int]
      rw [List.take_of_length_le (by omega)] at cp ⊢
      have := hk v' o' f' h' hp cp
      rw [List.length_cons, show at_ + (us.flatten.length + 1) = at_ + 1 + us.flatten.length by omega] at this
      exact this
  have := key 0 (by omega) v1 h2 [] f o2 (by simpa using Cap.nil)
  simpa using this
theorem each (hT : Stays T) (c105 : Cl105 D) (h49 : SpecHasI D 49) (s50 : SpecSub D 50 T) (he : Sr h0 ev ext) (ht : T h0) (hct : chkTerm ext l = 0) (hl : Ir h0 tv l) (hd : Ir h0 dv d) (hp1 : h0 p1 = some (.cells [ev, nn, dv])) (hp3 : h0 p3 = some (.cells [tv])) : ∀ n, EachN D ext d l h0 p1 p3 p5 p7 p11 n := by
  have ha := (chkTerm_ok hct).1
  intro n
  induction n with
  | zero => intro at_ f u r out v h k kp h1 h2 hu hn; exact absurd (List.length_eq_zero_iff.mp (by omega)) (isTerm_ne hu)
  | succ n ih =>
    intro at_ f u r out v h k kp hat hdr hu hn hf hout o hk
    obtain ⟨c, u1, rfl⟩ := List.exists_cons_of_ne_nil (isTerm_ne hu)
    have hlen := hl.len
    have hil : at_ + (c :: u1).length ≤ l.length := by
      have h1 := congrArg List.length hdr
      simp only [List.length_drop, List.length_append, List.length_cons] at h1
      simp only [List.length_cons]
      omega
    have hx : l[at_]? = some c := by
      have : (l.drop at_)[0]? = some c := by rw [hdr]; rfl
      rw [List.getElem?_drop] at this; simpa using this
    refine c105 _ _ _ _ _ _ _ _ _ ?_
    unfold F105
    rw [intK_int]
    refine ld0 (o.ext _ _ hp3) rfl ?_
    simp only [List.length_cons] at hil
    refine (hl.ext o.ext).at_ (by omega) (by omega) fun ad x hx' hxi hrd => ⟨x, hrd, ?_⟩
    rw [Int.toNat_natCast, hx] at hx'
    obtain rfl := Option.some.inj hx'
    rw [decide_eq_true (show ((at_ : Nat) : Int) > 0 by omega), cond_true]
    have cut : (c < 0 ∨ c ∈ d) → j105__3 D k kp (.int .i64 ((at_ : Nat) : Int)) (Pt p3) (Pt p1) (Pt p5) (Pt p7) (Pt p11) (.int .i64 c) (.bool true) h := fun hc => by
      unfold j105__3
      rw [intK_int, intK_int, boolW_bool, cond_true]
      simp only [List.length_cons] at hf hout
      refine ld0 (o.cell (i := 3) rfl) rfl (ldI (o.cell (i := 2) rfl) rfl ⟨rfl, by decide, ?_⟩)
      rw [i64_id (by omega) (by omega)]
      refine (o.push (i := 0) rfl (by decide) (by rw [Z_len]; omega) rfl (O := True) (U := True) trivial trivial fun v1 h1 o1 => ?_).2.2
      refine o1.st0 (i := 3) rfl (by simp) (sl_one' (o1.row (i := 0) rfl)) rfl fun h2 o2 => ?_
      refine ldI (o2.cell (i := 2) rfl) rfl (o2.st0 (i := 2) rfl (by simp) rfl rfl fun h3 o3 => ?_)
      rw [i64_id (by omega) (by omega)] at o3
      have hz : Z out ++ [Value.int .i64 (-1 - (f : Int))] = Z (out ++ [-1 - (f : Int)]) := by simp [Z]
      have o3 : Hp h0 h3 (echL p1 p3 p5 p7 p11 v1 (out ++ [-1 - (f : Int)]) (f + 1)) := by
        rw [hz] at o3
        have e : ((f + 1 : Nat) : Int) = (f : Int) + 1 := by omega
        unfold echL
        rw [e]; exact o3
      refine ldj (o3.ext _ _ hp1) rfl (ld0 (o3.ext _ _ hp3) rfl ?_)
      refine s50 _ _ ext l _ _ _ _ (by unfold inI; omega) (he.ext o3.ext) (hT _ _ o3.ext ht) (hl.ext o3.ext) fun v4 h4 e4 b4 => ⟨_, _, rfl, ?_⟩
      have hpl : placeE ext l (at_ : Int) = 0 := by
        unfold placeE
        rw [if_neg (by rw [hct]; decide), if_neg (by omega)]
      have hsv : subV ext l (at_ : Int) = c :: u1 := by unfold subV; rw [if_pos hpl, Int.toNat_natCast, subT_of hdr hu]
      rw [b4.row.len, Z_len, hsv, List.length_cons, i64_id (by omega) (by omega)]
      have := hk v1 _ _ h4 (o3.later e4) (Cap.one hc hu)
      rw [List.length_cons] at this
      have e : ((at_ : Nat) : Int) + ((u1.length + 1 : Nat) : Int) = ((at_ + (u1.length + 1) : Nat) : Int) := by omega
      rw [e]; exact this
    rw [cond_not, cond_dec]
    refine ⟨fun hneg => cut (.inl hneg), fun hpos => ?_⟩
    refine ldj (o.ext _ _ hp1) rfl (h49 _ _ _ _ _ _ (hd.ext o.ext) ⟨_, rfl, ?_⟩)
    by_cases hm : c ∈ d
    · rw [decide_eq_true hm]; exact cut (.inr hm)
    · rw [decide_eq_false hm]
      exact each_node c105 he ha hl hp1 hp3 ih (by omega) hdr hu hn hf hout o fun v' o2 f' h' hp cp => hk v' _ f' h' hp (.keep (by omega) hm cp)
end
def SpecCap (D : Orc) (f : Nat) (T : H → Prop) : Prop := ∀ ev nn dv tv ext (d l : List Int) h (k : Kv) kp, one nn = true → Sr h ev ext → T h → Ir h dv d → Ir h tv l → chkTerm ext l = 0 → 0 ≤ l.headD 0 → l.length ≤ 512 →
  (∀ v o g h', Ext h h' → Buf h h' v (Z (l.headD 0 :: o)) → Cap (S2 ext) d l.tail 0 o g → k (.tuple #[v, .int .i64 ((g : Nat) : Int)]) h') → D f [.agg #[ev, nn, dv], tv] h k kp
theorem spec85 (hT : Stays T) (c : Cl85 D) (c105 : Cl105 D) (h49 : SpecHasI D 49) (s50 : SpecSub D 50 T) : SpecCap D 85 T := by
  intro ev nn dv tv ext d l h k kp hnn he ht hd hl hct hc0 hl512 hk
  refine c _ _ _ _ _ ?_
  unfold F85
  obtain ⟨ha, hu⟩ := chkTerm_ok hct
  rw [aggW_agg]
  intro p1 hp1
  have e1 : Ext h (h.set p1 (.cells #[ev, nn, dv].toList)) := Ext.new hp1
  have b1 : (h.set p1 (.cells #[ev, nn, dv].toList)) p1 = some (.cells [ev, nn, dv]) := set_here
  generalize h.set p1 (.cells #[ev, nn, dv].toList) = h1 at e1 b1 ⊢
  refine ⟨sl_one' hl.row, fun p3 hp3 => ?_⟩
  have e3 : Ext h1 (h1.set p3 (.cells [tv])) := Ext.new hp3
  have b3 : (h1.set p3 (.cells [tv])) p3 = some (.cells [tv]) := set_here
  generalize h1.set p3 (.cells [tv]) = h3 at e3 b3 ⊢
  have e13 := e1.trans e3
  refine (Hp.nil_ h3).new_ fun p5 h5 hp5 o5 => o5.new_ fun p7 h7 hp7 o7 => ?_
  refine o7.st0 (i := 0) rfl (by simp) rfl rfl fun h8 o8 => o8.new_ fun p11 h11 hp11 o11 => ?_
  refine o11.st0 (i := 0) rfl (by simp) rfl rfl fun h12 o12 => ?_
  have o : Hp h3 h12 (echL p1 p3 p5 p7 p11 (.slice none 0 0) [] 0) := o12.add_nil (a := none)
  refine ld0 (o.cell (i := 1) rfl) rfl (callI body_each ?_)
  obtain ⟨x, l1, rfl⟩ := List.exists_cons_of_ne_nil (isTerm_ne hu)
  have hc0 : 0 ≤ x := hc0
  refine c105 _ _ _ _ _ _ _ _ _ ?_
  unfold F105
  rw [intK_int]
  refine ld0 (o.ext _ _ b3) rfl ?_
  have hl3 := hl.ext e13
  refine (hl3.ext o.ext).at_ (by omega) (by simp) fun ad y hy hyi hrd => ⟨y, hrd, ?_⟩
  have : x = y := by simpa using hy
  subst this
  rw [decide_eq_false (by decide), cond_false]
  have ih := each (p5 := p5) (p7 := p7) (p11 := p11) hT c105 h49 s50 (he.ext e13) (hT _ _ e13 ht) hct hl3 (hd.ext e13) (e3 _ _ b1) b3 l1.length
  simp only [List.length_cons] at hl512
  refine each_node (at_ := 0) (r := []) c105 (he.ext e13) ha hl3 (e3 _ _ b1) b3 ih hc0 (by simp) hu (by simp) (by simp; omega) (by simp; omega) o fun v' o2 f' h' hp cp => ⟨_, rfl, ?_⟩
  refine ld0 (hp.cell (i := 3) rfl) rfl (ldI (hp.cell (i := 2) rfl) rfl ?_)
  refine hk v' o2 f' h' (e13.trans hp.ext) ?_ cp
  exact (hp.buf (i := 0) rfl).of_new fun q hq => e13.free (hp.new _ (List.mem_cons_self ..) q hq).1
end Go.Proofs.YtnlhnlmnlfmojaaDoor.Am

namespace Go.Proofs.Sys
theorem canon_low : ∀ (t met : List Int) (c : Int), c ∈ canonGo met t → c < 0 → -1 - ((met.length + t.length : Nat) : Int) ≤ c
  | [], met, c, h, _ => by simp [canonGo] at h
  | d :: t, met, c, h, hc => by
    unfold canonGo at h
    split at h
    · rcases List.mem_cons.mp h with h | h
      · have := List.idxOf_le_length (a := d) (l := met)
        omega
      · have := canon_low t _ c h hc
        split at this
        · simp only [List.length_cons]; omega
        · simp only [List.length_append, List.length_nil, List.length_cons] at this ⊢; omega
    · rename_i hd
      rcases List.mem_cons.mp h with h | h
      · omega
      · have := canon_low t met c h hc
        simp only [List.length_cons]; omega
end Go.Proofs.Sys
namespace Go.Proofs.YtnlhnlmnlfmojaaDoor.Am
open Go Go.Proofs Sys Go.Lib
set_option linter.unusedVariables false
set_option linter.unusedSimpArgs false
set_option maxRecDepth 100000
variable {D : Orc} {T : H → Prop}

def SpecShift (D : Orc) (f : Nat) : Prop := ∀ t (l : List Int) (b : Int) h (k : Kv) kp, Ir h t l → 0 ≤ b → b ≤ 2 ^ 19 → (∀ c ∈ l, c < 0 → -(2 ^ 19) ≤ c) → (∀ v h', Ext h h' → Buf h h' v (Z (l.map (shC b))) → k (.tuple #[v, .int .i64 0]) h') → D f [t, .int .i64 b] h k kp
theorem spec86 (c : Cl86 D) (c48 : Cl48 D) : SpecShift D 86 := by
  intro t l b h k kp r hb0 hb1 hlow hk
  refine c _ _ _ _ _ ?_
  unfold F86
  rw [intK_int]
  have hlen := r.len
  refine spec48 c48 r fun v1 h1 b1 e1 => ⟨_, rfl, ?_⟩
  rw [(r.ext e1).len_]
  have o1 := (Hp.nil_ h).add_buf e1 b1
  intro I hI
  have key := down_ind (P := fun j => ∀ (h' : H), Hp h h' [bufR v1 (Z ((l.take j).map (shC b) ++ l.drop j))] → I [.int .i64 b, v1, t, .int .i64 ((l.length : Nat) : Int), .int .i64 ((j : Nat) : Int)] h') l.length
    fun j hj ih2 h' o => by
    refine hI _ _ _ _ _ _ ?_
    unfold round86_3
    rw [intK_int, intK_int, intK_int, cond_dec]
    refine ⟨fun hlt => ?_, fun hge => ?_⟩
    · refine (r.ext o.ext).at_ (by omega) (by omega) fun ad x hx hxi hrd => ⟨x, hrd, ?_⟩
      rw [Int.toNat_natCast] at hx
      have hj1 : j < l.length := by omega
      have next : ∀ {K : Kl} (h' : H), Hp h h' [bufR v1 (Z ((l.take (j + 1)).map (shC b) ++ l.drop (j + 1)))] → j86_3_13 D I K (.int .i64 b) v1 t (.int .i64 ((l.length : Nat) : Int)) (.int .i64 ((j : Nat) : Int)) h' := fun h' o => by
        unfold j86_3_13
        rw [intK_int, intK_int, intK_int, i64_id (by omega) (by omega)]
        exact ih2 hj1 h' o
      have htk : (l.take (j + 1)).map (shC b) = (l.take j).map (shC b) ++ [shC b x] := by rw [(split_at hx).2.1, List.map_append]; rfl
      rw [cond_dec]
      refine ⟨fun hpos => next h' ?_, fun hneg => ?_⟩
      · have e : shC b x = x := by unfold shC; rw [if_neg (by omega)]
        rw [htk, e, List.append_assoc, List.singleton_append, ← (split_at hx).2.2]
        exact o
      · have hxl := hlow x (List.mem_of_getElem? hx) (by omega)
        rw [decide_eq_true hb0, cond_true, decide_eq_false (by omega), Bool.not_false, cond_true]
        rw [i64_id (n := -1 - x) (by omega) (by omega), i64_id (by omega) (by omega), decide_eq_false (by omega)]
        unfold j86_3_8
        rw [intK_int, intK_int, intK_int, intK_int, intK_int, boolW_bool, cond_false, i64_id (by omega) (by omega), decide_eq_false (by omega), Bool.not_false, cond_true, decide_eq_false (by omega)]
        unfold j86_3_11
        rw [intK_int, intK_int, intK_int, intK_int, intK_int, boolW_bool, cond_false]
        refine o.put (i := 0) (j := j) rfl (by simp [Z]; omega) rfl rfl fun h2 o2 => next h2 ?_
        rw [i64_id (by omega) (by omega)] at o2
        have hs : [bufR v1 (Z ((l.take j).map (shC b) ++ l.drop j))].set 0 (bufR v1 ((Z ((l.take j).map (shC b) ++ l.drop j)).set j (.int .i64 (-1 - (-1 - x + b))))) = [bufR v1 (Z ((l.take (j + 1)).map (shC b) ++ l.drop (j + 1)))] := by
          rw [Z_set (m := []) (pre := (l.take j).map (shC b)) hx (by simp; omega), htk]
          have : shC b x = -1 - (-1 - x + b) := by unfold shC; rw [if_pos (by omega)]; omega
          rw [this]; rfl
        rw [hs] at o2
        exact o2
    · dsimp only
      rw [xs_e]
      show cond true _ _
      rw [cond_true, nth0]
      rw [List.take_of_length_le (by omega), List.drop_eq_nil_of_le (by omega), List.append_nil] at o
      exact hk v1 h' o.ext ((o.buf (i := 0) rfl).of_new fun q hq => (o.new _ (List.mem_cons_self ..) q hq).1)
  exact key 0 (by omega) h1 (by simpa using o1)
theorem rd3 {h : H} {b : Nat} {u v w : Value} (hb : h b = some (.cells [u, v, w])) : rdN h ⟨b, 0, none⟩ 3 = some [u, v, w] := by
  simp only [rdN, hb, rowOf, Option.bind_some]
  rw [if_pos (by simp)]; rfl
/-! ### may a row stand in a pair -/
def mayB (ext : List Sy) (n : Int) (t : List Int) : Bool := chkTerm ext t == 0 && (decide (t.length ≤ 512) && decide (n ≤ t.headD 0))
theorem mayB_ok {ext : List Sy} {n : Int} {t : List Int} (h : mayB ext n t = true) : chkTerm ext t = 0 ∧ t.length ≤ 512 ∧ n ≤ t.headD 0 := by
  unfold mayB at h
  simp only [Bool.and_eq_true, beq_iff_eq, decide_eq_true_eq] at h
  exact h
theorem at_head {h : H} {t : Value} {l : List Int} (r : Ir h t l) (hne : l ≠ []) {k : Int → Prop} (hk : k (l.headD 0)) : slAtW t (0 : Int) 1 fun ad => ∃ x : Int, rd h ad = some (.int .i64 x) ∧ k x := by
  obtain ⟨x, l1, rfl⟩ := List.exists_cons_of_ne_nil hne
  refine r.at_ (by omega) (by simp) fun ad y hy hyi hrd => ⟨y, hrd, ?_⟩
  have : x = y := by simpa using hy
  subst this; exact hk
def SpecMay (D : Orc) (f : Nat) (T : H → Prop) : Prop := ∀ ev dv tv ext (n : Int) t h (k : Kv) kp, one dv = true → Sr h ev ext → T h → Ir h tv t → (∀ h', Ext h h' → k (.bool (mayB ext n t)) h') → D f [.agg #[ev, .int .i64 n, dv], tv] h k kp
theorem spec84 (hT : Stays T) (c : Cl84 D) (s66 : SpecCheck D 66 T) : SpecMay D 84 T := by
  intro ev dv tv ext n t h k kp hdv he ht hl hk
  refine c _ _ _ _ _ ?_
  unfold F84
  rw [aggW_agg]
  refine (Hp.nil_ h).new_ fun p1 h1 hp1 o1 => ldj (o1.cell (i := 0) rfl) rfl ?_
  refine s66 _ _ _ _ _ _ _ (he.ext o1.ext) (hT _ _ o1.ext ht) (hl.ext o1.ext) fun h2 e2 => ⟨_, rfl, ?_⟩
  have o2 := o1.later e2
  have hlen := hl.len
  unfold mayB at hk
  rw [cond_eq]
  refine ⟨fun h0 => ?_, fun hne => ?_⟩
  · rw [(hl.ext o2.ext).len_]
    have e0 : (chkTerm ext t == 0) = true := by rw [h0]; rfl
    rw [e0, Bool.true_and] at hk
    rw [cond_dec]
    refine ⟨fun h5 => ?_, fun h5 => ?_⟩
    · refine at_head (hl.ext o2.ext) (isTerm_ne (chkTerm_ok h0).2) (ldjI (o2.cell (i := 0) rfl) rfl ?_)
      rw [decide_eq_true (show t.length ≤ 512 by omega), Bool.true_and] at hk
      exact hk h2 o2.ext
    · rw [decide_eq_false (show ¬ t.length ≤ 512 by omega), Bool.false_and] at hk
      exact hk h2 o2.ext
  · have e0 : (chkTerm ext t == 0) = false := by simpa using hne
    rw [e0, Bool.false_and] at hk
    exact hk h2 o2.ext
/-! ### an edge -/
open Classical in
noncomputable def edgeX (ext : List Sy) (n : Int) (d pR qL : List Int) : Bool := mayB ext n pR && (mayB ext n qL && (decide (pR.headD 0 = qL.headD 0) && decide (∃ o g, Cap (S2 ext) d pR.tail 0 o g ∧ canB ext (pR.headD 0 :: o) ((canonGo [] qL).map (shC ((g : Nat) : Int))) = true)))
noncomputable def edgeB (S : Sm) (pR qL : List Int) : Bool := rightS S && edgeX (extV S.sig) (S.sig.length : Int) (defL S) pR qL
def SpecEdgeX (D : Orc) (f : Nat) (T : H → Prop) : Prop := ∀ ev dv plv prv qlv qrv ext (n : Int) (d pR qL : List Int) h (k : Kv) kp, one plv = true → one qrv = true → 0 ≤ n → Sr h ev ext → T h → Ir h dv d → Ir h prv pR → Ir h qlv qL → (∀ h', Ext h h' → k (.bool (edgeX ext n d pR qL)) h') →
  D f [.agg #[ev, .int .i64 n, dv], .agg #[plv, prv], .agg #[qlv, qrv]] h k kp
open Classical in
theorem edgeX_cap {ext : List Sy} {d pR qL o : List Int} {g : Nat} (hc : Cap (S2 ext) d pR.tail 0 o g) : decide (∃ o g, Cap (S2 ext) d pR.tail 0 o g ∧ canB ext (pR.headD 0 :: o) ((canonGo [] qL).map (shC ((g : Nat) : Int))) = true) = canB ext (pR.headD 0 :: o) ((canonGo [] qL).map (shC ((g : Nat) : Int))) := by
  cases hb : canB ext (pR.headD 0 :: o) ((canonGo [] qL).map (shC ((g : Nat) : Int))) with
  | true => exact decide_eq_true ⟨o, g, hc, hb⟩
  | false =>
    refine decide_eq_false fun ⟨o', g', hc', hb'⟩ => ?_
    obtain ⟨rfl, rfl⟩ := hc.fn hc'
    rw [hb] at hb'; cases hb'
theorem shC_rng {b : Int} {l : List Int} (hb0 : 0 ≤ b) (hb1 : b ≤ 2 ^ 19) (hr : ∀ c ∈ l, inI c) (hlow : ∀ c ∈ l, c < 0 → -(2 ^ 19) ≤ c) : ∀ c ∈ l.map (shC b), inI c := fun c hc => by
  obtain ⟨x, hx, rfl⟩ := List.mem_map.mp hc
  unfold shC
  have h1 := hr x hx
  split
  · have := hlow x hx (by omega)
    unfold inI; omega
  · exact h1
theorem cap_rng {sig : Sg} {d l o : List Int} {f g : Nat} (h : Cap sig d l f o g) (hr : ∀ c ∈ l, inI c) (hg : g < 2 ^ 40) : ∀ c ∈ o, inI c := by
  induction h with
  | nil => intro c hc; cases hc
  | @cut c0 u r o f g _ _ h1 ih =>
    intro c hc
    have := h1.len
    rcases List.mem_cons.mp hc with rfl | hc
    · unfold inI; omega
    · exact ih (fun x hx => hr x (by simp [hx])) hg c hc
  | keep _ _ _ ih =>
    intro c hc
    rcases List.mem_cons.mp hc with rfl | hc
    · exact hr c (by simp)
    · exact ih (fun x hx => hr x (by simp [hx])) hg c hc
theorem spec71 (hT : Stays T) (c : Cl71 D) (s84 : SpecMay D 84 T) (s85 : SpecCap D 85 T) (c67 : Cl67 D) (c48 : Cl48 D) (s86 : SpecShift D 86) (s87 : SpecCan D 87 T) : SpecEdgeX D 71 T := by
  intro ev dv plv prv qlv qrv ext n d pR qL h k kp hpl hqr hn0 he ht hd hp hq hk
  refine c _ _ _ _ _ _ ?_
  unfold F71
  rw [aggW_agg]
  intro p1 hp1
  have e1 : Ext h (h.set p1 (.cells #[ev, .int .i64 n, dv].toList)) := Ext.new hp1
  have b1 : (h.set p1 (.cells #[ev, .int .i64 n, dv].toList)) p1 = some (.cells [ev, .int .i64 n, dv]) := set_here
  generalize h.set p1 (.cells #[ev, .int .i64 n, dv].toList) = h1 at e1 b1 ⊢
  rw [aggW_agg]
  intro p4 hp4
  have e4 : Ext h1 (h1.set p4 (.cells #[plv, prv].toList)) := Ext.new hp4
  have b4 : (h1.set p4 (.cells #[plv, prv].toList)) p4 = some (.cells [plv, prv]) := set_here
  generalize h1.set p4 (.cells #[plv, prv].toList) = h4 at e4 b4 ⊢
  rw [aggW_agg]
  intro p7 hp7
  have e7 : Ext h4 (h4.set p7 (.cells #[qlv, qrv].toList)) := Ext.new hp7
  have b7 : (h4.set p7 (.cells #[qlv, qrv].toList)) p7 = some (.cells [qlv, qrv]) := set_here
  generalize h4.set p7 (.cells #[qlv, qrv].toList) = h7 at e7 b7 ⊢
  have b1 := e7 _ _ (e4 _ _ b1)
  have b4 := e7 _ _ b4
  have e := (e1.trans e4).trans e7
  have hdv : one dv = true := sl_one' hd.row
  rw [ptrW_ptr]
  refine ⟨ev, n, dv, rd3 b1, ldj b4 rfl ?_⟩
  refine s84 _ _ _ _ _ _ _ _ _ hdv (he.ext e) (hT _ _ e ht) (hp.ext e) fun h8 e8 => ⟨_, rfl, ?_⟩
  have ee8 := e.trans e8
  unfold edgeX at hk
  have stop : ∀ h', Ext h7 h' → k (.bool false) h' → j71__2 D k kp (Pt p1) (Pt p4) (Pt p7) (.bool true) h' := fun h' _ hk' => by
    unfold j71__2
    rw [boolW_bool, cond_true]; exact hk'
  rw [Bool.not_not, cond_split]
  refine ⟨fun hm => ?_, fun hm => ?_⟩
  · rw [hm, Bool.true_and] at hk
    rw [ptrW_ptr]
    refine ⟨ev, n, dv, rd3 (e8 _ _ b1), ldj (e8 _ _ b7) rfl ?_⟩
    refine s84 _ _ _ _ _ _ _ _ _ hdv (he.ext ee8) (hT _ _ ee8 ht) (hq.ext ee8) fun h9 e9 => ⟨_, rfl, ?_⟩
    have e79 := e8.trans e9
    have ee9 := ee8.trans e9
    rw [Bool.not_not, cond_split]
    refine ⟨fun hm2 => ?_, fun hm2 => ?_⟩
    · rw [hm2, Bool.true_and] at hk
      obtain ⟨hcp, hp5, hpn⟩ := mayB_ok hm
      obtain ⟨hcq, hq5, hqn⟩ := mayB_ok hm2
      have hpne := isTerm_ne (chkTerm_ok hcp).2
      have hqne := isTerm_ne (chkTerm_ok hcq).2
      refine ldj (e79 _ _ b4) rfl (at_head (hp.ext ee9) hpne (ldj (e79 _ _ b7) rfl (at_head (hq.ext ee9) hqne ?_)))
      by_cases hh : pR.headD 0 = qL.headD 0
      · have hb : (pR.headD 0 != qL.headD 0) = false := by simpa using hh
        rw [hb]
        rw [decide_eq_true hh, Bool.true_and] at hk
        unfold j71__2
        rw [boolW_bool, cond_false, ptrW_ptr]
        refine ⟨ev, n, dv, rd3 (e79 _ _ b1), ldj (e79 _ _ b4) rfl ?_⟩
        refine s85 _ _ _ _ _ _ _ _ _ _ rfl (he.ext ee9) (hT _ _ ee9 ht) (hd.ext ee9) (hp.ext ee9) hcp (by omega) hp5 fun cv o g h10 e10 b10 hcap => ⟨_, _, rfl, ?_⟩
        have hcl := hcap.len
        simp only [List.length_tail] at hcl
        have e710 := e79.trans e10
        have ee10 := ee9.trans e10
        rw [edgeX_cap hcap] at hk
        refine ldj (e710 _ _ b7) rfl ⟨sl_one' hq.row, by decide, ?_⟩
        intro sb hsb
        have e11 : Ext h10 (h10.set sb (.cells [qlv])) := Ext.new hsb
        have b11 : (h10.set sb (.cells [qlv])) sb = some (.cells [qlv]) := set_here
        generalize h10.set sb (.cells [qlv]) = h11 at e11 b11 ⊢
        have ee11 := ee10.trans e11
        refine spec67 c67 c48 (ts := [qL]) ⟨⟨[qlv], Row.cells b11 rfl, rfl, fun i v hv => ?_⟩⟩ (by simp) (by unfold tot; simp; omega) fun v12 h12 r12 e12 => ⟨_, rfl, ?_⟩
        · cases i with
          | zero =>
            have : qlv = v := by simpa using hv
            subst this
            exact ⟨qL, rfl, hq.ext ee11⟩
          | succ i => simp at hv
        · have ee12 := ee11.trans e12
          refine r12.at_ (by omega) (by simp [canonL]) fun ad v t ht' hrd it => ⟨v, hrd, ?_⟩
          have : canonGo [] qL = t := by simpa [canonL] using ht'
          subst this
          have hlow : ∀ c ∈ canonGo [] qL, c < 0 → -(2 ^ 19) ≤ c := fun c hc hc0 => by
            have := canon_low qL [] c hc hc0
            simp only [List.length_nil] at this; omega
          refine s86 _ _ _ _ _ _ it (by omega) (by omega) hlow fun v13 h13 e13 b13 => ⟨_, _, rfl, ?_⟩
          have e713 := ((e710.trans e11).trans e12).trans e13
          have ee13 := ee12.trans e13
          refine ldj (e713 _ _ b1) rfl ?_
          have hpl1 : pR.tail.length = pR.length - 1 := List.length_tail
          have ia : Ir h13 cv (pR.headD 0 :: o) := ⟨b10.row.ext ((e11.trans e12).trans e13), by simp; omega, fun x hx => by
            rcases List.mem_cons.mp hx with rfl | hx
            · obtain ⟨y, l1, rfl⟩ := List.exists_cons_of_ne_nil hpne
              exact hp.rng _ (by simp)
            · exact cap_rng hcap (fun y hy => hp.rng y (List.mem_of_mem_tail hy)) (by omega) x hx⟩
          have ib : Ir h13 v13 ((canonGo [] qL).map (shC ((g : Nat) : Int))) := ⟨b13.row, by rw [List.length_map]; exact it.len, shC_rng (by omega) (by omega) it.rng hlow⟩
          refine s87 _ _ _ _ _ _ _ _ _ (he.ext ee13) (hT _ _ ee13 ht) ia ib ?_ fun h14 e14 => ⟨_, rfl, hk h14 (ee13.trans e14)⟩
          rw [List.length_map, canonGo_len]
          simp; omega
      · have hb : (pR.headD 0 != qL.headD 0) = true := by simpa using hh
        rw [hb]
        rw [decide_eq_false hh, Bool.false_and] at hk
        exact stop h9 e79 (hk h9 ee9)
    · rw [hm2, Bool.false_and] at hk
      exact stop h9 e79 (hk h9 ee9)
  · rw [hm, Bool.false_and] at hk
    exact stop h8 e8 (hk h8 ee8)
end Go.Proofs.YtnlhnlmnlfmojaaDoor.Am

namespace Go.Proofs.YtnlhnlmnlfmojaaDoor.Am
open Go Go.Proofs Sys Go.Lib
set_option linter.unusedVariables false
set_option linter.unusedSimpArgs false
set_option maxRecDepth 100000
variable {D : Orc} {T : H → Prop}

/-- A place of some cells is written whole. -/
theorem Hp.wrAll {h0 h : H} {L : List Res} {i b : Nat} {l ws : List Value} (o : Hp h0 h L) (hi : L[i]? = some (cellR b l)) (hl : ws.length = l.length) {T U : Prop} (hT : T) (hU : U) {K : H → Prop} (hK : ∀ h', Hp h0 h' (L.set i (cellR b ws)) → K h') :
    ptrW (Pt b) fun ad => T ∧ U ∧ ∃ h', Am.wr h ad ws = some h' ∧ K h' := by
  refine ⟨hT, hU, h.set b (.cells ws), ?_, hK _ (o.set_cell hi ws)⟩
  simp only [Am.wr, o.cell hi]
  rw [if_pos (by show 0 + ws.length ≤ l.length; omega)]
  simp [splice, hl]
/-- A row that is read alone. -/
def rowR (s : Value) (vs : List Value) : Res := ⟨fun c => Blk s = some c, fun h => Row h s vs, fun h h' e r => r.kept fun d o hd hx => (e d hd).trans hx⟩
theorem Hp.add_row {h0 h h' : H} {L : List Res} {s : Value} {vs : List Value} (o : Hp h0 h L) (e : Ext h h') (r : Row h' s vs) (nb : ∀ d, Blk s = some d → h d = none) : Hp h0 h' (rowR s vs :: L) :=
  o.add e.keeps r fun c hc => ⟨nb c hc, r.known hc⟩
def SpecEst (D : Orc) (f : Nat) (T : H → Prop) : Prop := ∀ va (S : Sm) h (k : Kv) kp, Ss h va S → T h → (∀ ev dv h', Ext h h' → Sr h' ev (extV S.sig) → Ir h' dv (defL S) → k (.tuple #[.agg #[ev, .int .i64 ((S.sig.length : Nat) : Int), dv], .bool (rightS S)]) h') → D f [va] h k kp
theorem spec70 (hT : Stays T) (c : Cl70 D) (s10 : SpecSys D 10 T) (s20 : SpecExt D 20 T) (s12 : SpecDef D 12 T) : SpecEst D 70 T := by
  intro va S h k kp hS ht hk
  refine c _ _ _ _ ?_
  obtain ⟨sa, ra, rfl, hsa, hra⟩ := hS.ex
  unfold F70
  rw [aggW_agg]
  refine (Hp.nil_ h).new_ fun p1 h1 hp1 o1 => o1.new_ fun p3 h3 hp3 o3 => ?_
  have o3 : Hp h h3 [cellR p3 [.slice none 0 0, .int .i64 0, .slice none 0 0], cellR p1 [sa, ra]] := o3
  rw [ptrW_ptr]
  refine ⟨sa, ra, rd2 (o3.cell (i := 1) rfl), ?_⟩
  refine s10 _ S _ _ _ (hS.ext o3.ext) (hT _ _ o3.ext ht) fun h4 e4 => ⟨_, _, rfl, ?_⟩
  have o4 := o3.later e4
  refine ldj (o4.cell (i := 1) rfl) rfl ?_
  refine s20 _ _ _ _ _ (hsa.ext o4.ext) (hT _ _ o4.ext ht) fun ev h5 e5 b5 => ⟨_, _, rfl, ?_⟩
  have o5 := o4.add_bufK e5 b5
  rw [ptrW_ptr]
  refine ⟨sa, rdc_at (o5.cell (i := 2) rfl) rfl, ?_⟩
  rw [(hsa.ext o5.ext).row.len, sgRow_len, ptrW_ptr]
  refine ⟨sa, ra, rd2 (o5.cell (i := 2) rfl), ?_⟩
  refine s12 _ S _ _ _ (hS.ext o5.ext) (hT _ _ o5.ext ht) fun dv h6 hd e6 nb => ⟨_, rfl, ?_⟩
  have o6 : Hp h h6 (rowR dv (Z (defL S)) :: bufK 2 ev (sgRow (extV S.sig)) :: [cellR p3 [.slice none 0 0, .int .i64 0, .slice none 0 0], cellR p1 [sa, ra]]) := o5.add_row e6 hd.row nb
  refine ⟨rdc_at (o6.cell (i := 3) rfl) rfl, ?_⟩
  have he1 : one ev = true := by
    have := b5.row.isSl
    cases ev <;> first | rfl | exact this.elim
  have hd1 : one dv = true := sl_one' hd.row
  refine ⟨he1, by decide, rfl, by decide, hd1, by decide, ?_⟩
  have hall : List.all [ev, .int .i64 ((S.sig.length : Nat) : Int), dv] one = true := by simp only [List.all_cons, List.all_nil, he1, hd1, one_int]; rfl
  refine o6.wrAll (i := 2) (ws := [ev, .int .i64 ((S.sig.length : Nat) : Int), dv]) rfl rfl rfl hall fun h7 o7 => ?_
  rw [ptrW_ptr]
  refine ⟨ev, _, dv, rd3 (o7.cell (i := 2) rfl), ?_⟩
  exact hk ev dv h7 o7.ext (ext_sr (o7.rowK (i := 1) rfl)) ⟨o7.get (i := 0) rfl, hd.len, hd.rng⟩
def SpecEdge (D : Orc) (f : Nat) (T : H → Prop) : Prop := ∀ va (S : Sm) plv prv qlv qrv (pR qL : List Int) h (k : Kv) kp, one plv = true → one qrv = true → Ss h va S → T h → Ir h prv pR → Ir h qlv qL → (∀ h', Ext h h' → k (.bool (edgeB S pR qL)) h') → D f [va, .agg #[plv, prv], .agg #[qlv, qrv]] h k kp
theorem spec43 (hT : Stays T) (c : Cl43 D) (s70 : SpecEst D 70 T) (s71 : SpecEdgeX D 71 T) : SpecEdge D 43 T := by
  intro va S plv prv qlv qrv pR qL h k kp hpl hqr hS ht hp hq hk
  refine c _ _ _ _ _ _ ?_
  obtain ⟨sa, ra, rfl, hsa, hra⟩ := hS.ex
  unfold F43
  rw [aggW_agg]
  refine (Hp.nil_ h).new_ fun p1 h1 hp1 o1 => ?_
  rw [aggW_agg]
  refine o1.new_ fun p4 h4 hp4 o4 => ?_
  rw [aggW_agg]
  refine o4.new_ fun p7 h7 hp7 o7 => ?_
  have o7 : Hp h h7 [cellR p7 [qlv, qrv], cellR p4 [plv, prv], cellR p1 [sa, ra]] := o7
  rw [ptrW_ptr]
  refine ⟨sa, ra, rd2 (o7.cell (i := 2) rfl), ?_⟩
  refine s70 _ S _ _ _ (hS.ext o7.ext) (hT _ _ o7.ext ht) fun ev dv h8 e8 he hd => ⟨ev, _, dv, _, rfl, ?_⟩
  have hd1 : one dv = true := sl_one' hd.row
  have he1 : one ev = true := by
    have := he.row.isSl
    cases ev <;> first | rfl | exact this.elim
  have hall : List.all [ev, .int .i64 ((S.sig.length : Nat) : Int), dv] one = true := by simp only [List.all_cons, List.all_nil, he1, hd1, one_int]; rfl
  have o8 := (Hp.nil_ h8).later (Ext.refl h8)
  refine o8.new_ fun p18 h9 hp9 o9 => o9.wrAll (i := 0) (ws := [ev, .int .i64 ((S.sig.length : Nat) : Int), dv]) rfl rfl rfl hall fun h10 o10 => ?_
  have q8 := o7.later (e8.trans o10.ext)
  unfold edgeB at hk
  rw [cond_split]
  refine ⟨fun hr => ?_, fun hr => ?_⟩
  · rw [ptrW_ptr]
    refine ⟨ev, _, dv, rd3 (o10.cell (i := 0) rfl), ?_⟩
    rw [ptrW_ptr]
    refine ⟨plv, prv, rd2 (q8.cell (i := 1) rfl), ?_⟩
    rw [ptrW_ptr]
    refine ⟨qlv, qrv, rd2 (q8.cell (i := 0) rfl), ?_⟩
    refine s71 _ _ _ _ _ _ _ _ _ pR qL _ _ _ hpl hqr (by omega) (he.ext o10.ext) (hT _ _ q8.ext ht) (hd.ext o10.ext) (hp.ext q8.ext) (hq.ext q8.ext) fun h11 e11 => ⟨_, rfl, ?_⟩
    rw [hr, Bool.true_and] at hk
    exact hk h11 (q8.ext.trans e11)
  · rw [hr, Bool.false_and] at hk
    exact hk h10 q8.ext
/-! ### the graph -/
/-- The rows of edges, as far as they are reckoned. -/
noncomputable def edgeUp (S : Sm) (ps : List Ru) (pR : List Int) (k : Nat) : List Int := ((List.range k).filter fun j => (ps[j]?.map fun q => edgeB S pR q.1).getD false).map fun j => ((j : Nat) : Int)
noncomputable def graphL (S : Sm) (ps : List Ru) : List (List Int) := ps.map fun p => edgeUp S ps p.2 ps.length
theorem edgeUp_succ {S : Sm} {ps : List Ru} {pR : List Int} {k : Nat} {q : Ru} (hq : ps[k]? = some q) : edgeUp S ps pR (k + 1) = edgeUp S ps pR k ++ (if edgeB S pR q.1 = true then [((k : Nat) : Int)] else []) := by
  unfold edgeUp
  rw [List.range_succ, List.filter_append, List.map_append]
  congr 1
  simp only [List.filter_cons, hq, Option.map_some, Option.getD_some, List.filter_nil]
  split <;> simp
theorem edgeUp_rng {S : Sm} {ps : List Ru} {pR : List Int} {k : Nat} (hk : k < 2 ^ 40) : (edgeUp S ps pR k).length ≤ k ∧ ∀ c ∈ edgeUp S ps pR k, inI c := by
  unfold edgeUp
  refine ⟨?_, fun c hc => ?_⟩
  · rw [List.length_map]
    exact Nat.le_trans (List.length_filter_le _ _) (by simp)
  · obtain ⟨j, hj, rfl⟩ := List.mem_map.mp hc
    have := List.mem_range.mp (List.mem_filter.mp hj).1
    unfold inI; omega
def rowsR (xs : List (Value × List Int)) : List Res := xs.map fun x => bufR x.1 (Z x.2)
theorem Hp.add_nils {h0 h : H} {L : List Res} (o : Hp h0 h L) : ∀ n : Nat, Hp h0 h (rowsR (List.replicate n (.slice none 0 0, [])) ++ L)
  | 0 => o
  | n + 1 => (o.add_nils n).add_nil
theorem rowsR_at {xs : List (Value × List Int)} {i : Nat} {x : Value × List Int} (h : xs[i]? = some x) : (rowsR xs)[i]? = some (bufR x.1 (Z x.2)) := by simp [rowsR, h]
def SpecGraph (D : Orc) (f : Nat) (T : H → Prop) : Prop := ∀ va (S : Sm) lv ps h (k : Kv) kp, Ss h va S → T h → Rr h lv ps → (∀ v h', Ext h h' → Rw h' v (graphL S ps) → k v h') → D f [va, lv] h k kp
theorem spec42 (hT : Stays T) (c : Cl42 D) (s70 : SpecEst D 70 T) (s71 : SpecEdgeX D 71 T) : SpecGraph D 42 T := by
  intro va S lv ps h k kp hS ht hl hk
  refine c _ _ _ _ _ ?_
  obtain ⟨sa, ra, rfl, hsa, hra⟩ := hS.ex
  unfold F42
  have hpl : ps.length < 1099511627776 := hl.len
  rw [aggW_agg]
  refine (Hp.nil_ h).new_ fun p1 h1 hp1 o1 => ?_
  have o1 : Hp h h1 [cellR p1 [sa, ra]] := o1
  rw [ptrW_ptr]
  refine ⟨sa, ra, rd2 (o1.cell (i := 0) rfl), ?_⟩
  refine s70 _ S _ _ _ (hS.ext o1.ext) (hT _ _ o1.ext ht) fun ev dv h2 e2 he hd => ⟨ev, _, dv, _, rfl, ?_⟩
  have hd1 : one dv = true := sl_one' hd.row
  have he1 : one ev = true := by
    have := he.row.isSl
    cases ev <;> first | rfl | exact this.elim
  have hall : List.all [ev, .int .i64 ((S.sig.length : Nat) : Int), dv] one = true := by simp only [List.all_cons, List.all_nil, he1, hd1, one_int]; rfl
  refine (Hp.nil_ h2).new_ fun p12 h3 hp12 o3 => o3.wrAll (i := 0) (ws := [ev, .int .i64 ((S.sig.length : Nat) : Int), dv]) rfl rfl rfl hall fun h4 o4 => ?_
  have o4 : Hp h2 h4 [cellR p12 [ev, .int .i64 ((S.sig.length : Nat) : Int), dv]] := o4
  have e02 := o1.ext.trans e2
  have e04 := e02.trans o4.ext
  have b12 : h4 p12 = some (.cells [ev, .int .i64 ((S.sig.length : Nat) : Int), dv]) := o4.cell (i := 0) rfl
  have hl4 := hl.ext e04
  rw [hl4.len_]
  refine (Hp.nil_ h4).mkS (by omega) (by decide) fun gb h5 hgb o5 => ?_
  rw [(hl4.ext o5.ext).len_]
  have o5 : Hp h4 h5 [cellR gb (List.replicate ps.length (.slice none 0 0))] := o5
  obtain ⟨vs, rk, hvl, hvi⟩ := hl4.ex
  intro I hI
  -- the rows, with the cells that hold them
  let St : List (Value × List Int) → List Res := fun xs => cellR gb (xs.map Prod.fst) :: rowsR xs
  have rowq : ∀ {i : Nat} {p : Ru}, ps[i]? = some p → ∃ lvi rvi, (ruRow vs)[i]? = some [lvi, rvi] ∧ Ir h4 lvi p.1 ∧ Ir h4 rvi p.2 := fun {i p} hp => by
    have hil := (List.getElem?_eq_some_iff.mp hp).1
    obtain ⟨v, hv⟩ : ∃ v, vs[i]? = some v := ⟨_, List.getElem?_eq_getElem (by omega)⟩
    obtain ⟨r, hr, a, b⟩ := hvi i v hv
    rw [hp] at hr
    obtain rfl := Option.some.inj hr
    exact ⟨v.1, v.2, by simp [ruRow, hv], a, b⟩
  have key := down_ind (P := fun i => ∀ (xs : List (Value × List Int)) (h' : H), Hp h4 h' (St xs) → xs.length = ps.length → (∀ j x, xs[j]? = some x → ∃ p, ps[j]? = some p ∧ x.2 = if j < i then edgeUp S ps p.2 ps.length else []) →
      I [lv, Pt p12, .bool (rightS S), .slice (some ⟨gb, 0, none⟩) ps.length ps.length, lv, .int .i64 ((ps.length : Nat) : Int), .int .i64 ((i : Nat) : Int)] h') ps.length
    fun i hi ih xs h' o hxl hx => by
    refine hI _ _ _ _ _ _ _ _ ?_
    unfold round42_4
    rw [boolW_bool, intK_int, intK_int, cond_dec]
    refine ⟨fun hlt => ?_, fun hge => ?_⟩
    · have hi1 : i < ps.length := by omega
      refine (rk.ext o.ext).at_ (by omega) (by rw [ruRow_len]; omega) fun ad w hw hrd _ => ?_
      rw [Int.toNat_natCast] at hw
      obtain ⟨p, hp⟩ : ∃ p, ps[i]? = some p := ⟨_, List.getElem?_eq_getElem hi1⟩
      obtain ⟨plv, prv, hpv, ipl, ipr⟩ := rowq hp
      rw [hpv] at hw
      obtain rfl := Option.some.inj hw
      refine ⟨plv, prv, hrd, o.two (sl_one' ipl.row) (sl_one' ipr.row) rfl fun p27 h6 hp27 o6 => ?_⟩
      rw [(hl4.ext o6.ext).len_]
      intro I2 hI2
      have key2 := down_ind (P := fun m => ∀ (xs : List (Value × List Int)) (h' : H), Hp h4 h' (cellR p27 [plv, prv] :: St xs) → xs.length = ps.length → (∀ j x, xs[j]? = some x → ∃ p, ps[j]? = some p ∧ x.2 = if j < i then edgeUp S ps p.2 ps.length else if j = i then edgeUp S ps p.2 m else []) →
          I2 [lv, Pt p12, .bool (rightS S), .slice (some ⟨gb, 0, none⟩) ps.length ps.length, .int .i64 ((i : Nat) : Int), Pt p27, lv, .int .i64 ((ps.length : Nat) : Int), .int .i64 ((i : Nat) : Int), lv, .int .i64 ((ps.length : Nat) : Int), .int .i64 ((m : Nat) : Int)] h') ps.length
        fun m hm ih2 xs h' o hxl hx => by
        refine hI2 _ _ _ _ _ _ _ _ _ _ _ _ _ ?_
        unfold round42_7
        rw [boolW_bool, intK_int, intK_int, intK_int, intK_int, intK_int, cond_dec]
        refine ⟨fun hlt2 => ?_, fun hge2 => ?_⟩
        · have hm1 : m < ps.length := by omega
          refine (rk.ext o.ext).at_ (by omega) (by rw [ruRow_len]; omega) fun ad w hw hrd _ => ?_
          rw [Int.toNat_natCast] at hw
          obtain ⟨q, hq⟩ : ∃ q, ps[m]? = some q := ⟨_, List.getElem?_eq_getElem hm1⟩
          obtain ⟨qlv, qrv, hqv, iql, iqr⟩ := rowq hq
          rw [hqv] at hw
          obtain rfl := Option.some.inj hw
          refine ⟨qlv, qrv, hrd, o.two (sl_one' iql.row) (sl_one' iqr.row) rfl fun p42 h7 hp42 o7 => ?_⟩
          obtain ⟨x, hxi⟩ : ∃ x, xs[i]? = some x := ⟨_, List.getElem?_eq_getElem (by omega)⟩
          obtain ⟨p', hp', hx2⟩ := hx i x hxi
          rw [hp] at hp'
          obtain rfl := Option.some.inj hp'
          rw [if_neg (by omega), if_pos rfl] at hx2
          have hup := edgeUp_succ (S := S) (pR := p.2) hq
          -- the round's end
          have go : ∀ {K : Kl} (t : Bool) (h8 : H), t = edgeB S p.2 q.1 → Hp h4 h8 (cellR p27 [plv, prv] :: St xs) → j42_7_10 D I2 K lv (Pt p12) (.bool (rightS S)) (.slice (some ⟨gb, 0, none⟩) ps.length ps.length) (.int .i64 ((i : Nat) : Int)) (Pt p27) (.int .i64 ((m : Nat) : Int)) lv (.int .i64 ((ps.length : Nat) : Int)) (.int .i64 ((i : Nat) : Int)) lv (.int .i64 ((ps.length : Nat) : Int)) (.int .i64 ((m : Nat) : Int)) (.bool t) h8 := fun t h8 ht8 o8 => by
            unfold j42_7_10
            rw [boolW_bool, intK_int, intK_int, intK_int, intK_int, intK_int, intK_int, boolW_bool]
            cases t with
            | false =>
              rw [cond_false]
              unfold j42_7_11
              rw [boolW_bool, intK_int, intK_int, intK_int, intK_int, intK_int, i64_id (by omega) (by omega)]
              refine ih2 hm1 xs h8 o8 hxl fun j y hy => ?_
              obtain ⟨p2, hp2, hy2⟩ := hx j y hy
              refine ⟨p2, hp2, ?_⟩
              by_cases hji : j = i
              · subst hji
                rw [hp] at hp2
                obtain rfl := Option.some.inj hp2
                rw [if_neg (by omega), if_pos rfl] at hy2 ⊢
                rw [hy2, hup, ← ht8]; simp
              · rw [hy2]
                by_cases h1 : j < i
                · rw [if_pos h1, if_pos h1]
                · rw [if_neg h1, if_neg h1, if_neg hji, if_neg hji]
            | true =>
              rw [cond_true]
              have hfi : (xs.map Prod.fst)[i]? = some x.1 := by simp [hxi]
              refine (Row.cells (o8.cell (i := 1) rfl) (by simp [hxl])).at_ (by omega) (by simp; omega) fun ad v hv hrd => ⟨v, hrd, ?_⟩
              rw [Int.toNat_natCast, hfi] at hv
              obtain rfl := Option.some.inj hv
              refine ⟨rfl, by decide, ?_⟩
              have hrow : (cellR p27 [plv, prv] :: St xs)[i + 2]? = some (bufR x.1 (Z x.2)) := rowsR_at hxi
              have hlen2 := (edgeUp_rng (S := S) (ps := ps) (pR := p.2) (k := m) (by omega)).1
              refine (o8.push (i := i + 2) hrow (by decide) (by rw [Z_len, hx2]; omega) rfl (O := True) (U := True) trivial trivial fun s' h9 o9 => ?_).2.2
              refine o9.stA (i := 1) (j := i) (l := xs.map Prod.fst) rfl hi1 (by simp; omega) (sl_one' (o9.row (i := i + 2) (by rw [List.getElem?_set_self (List.getElem?_eq_some_iff.mp hrow).1]))) rfl fun h10 o10 => ?_
              unfold j42_7_11
              rw [boolW_bool, intK_int, intK_int, intK_int, intK_int, intK_int, i64_id (by omega) (by omega)]
              refine ih2 hm1 (xs.set i (s', x.2 ++ [((m : Nat) : Int)])) h10 ?_ (by simp [hxl]) fun j y hy => ?_
              · have hz : Z x.2 ++ [Value.int .i64 ((m : Nat) : Int)] = Z (x.2 ++ [((m : Nat) : Int)]) := by simp [Z]
                rw [hz] at o10
                have e : cellR p27 [plv, prv] :: St (xs.set i (s', x.2 ++ [((m : Nat) : Int)])) = (((cellR p27 [plv, prv] :: St xs).set (i + 2) (bufR s' (Z (x.2 ++ [((m : Nat) : Int)])))).set 1 (cellR gb ((xs.map Prod.fst).set i s'))) := by
                  show cellR p27 [plv, prv] :: cellR gb ((xs.set i _).map Prod.fst) :: rowsR (xs.set i _) = cellR p27 [plv, prv] :: cellR gb _ :: (rowsR xs).set i _
                  unfold rowsR
                  rw [List.map_set, List.map_set]
                rw [e]; exact o10
              · rw [List.getElem?_set] at hy
                split at hy
                · rename_i hij
                  subst hij
                  rw [if_pos (by omega)] at hy
                  obtain rfl := Option.some.inj hy
                  refine ⟨p, hp, ?_⟩
                  rw [if_neg (by omega), if_pos rfl, hup, ← ht8, if_pos rfl, ← hx2]
                · rename_i hij
                  obtain ⟨p2, hp2, hy2⟩ := hx j y hy
                  refine ⟨p2, hp2, ?_⟩
                  have hji : ¬ j = i := fun e => hij e.symm
                  rw [hy2]
                  by_cases h1 : j < i
                  · rw [if_pos h1, if_pos h1]
                  · rw [if_neg h1, if_neg h1, if_neg hji, if_neg hji]
          have o7' : Hp h4 h7 (cellR p27 [plv, prv] :: St xs) := o7.sub (List.sublist_cons_self _ _)
          rw [cond_split]
          refine ⟨fun hr => ?_, fun hr => go false h7 (by unfold edgeB; rw [hr]; rfl) o7'⟩
          rw [ptrW_ptr]
          refine ⟨ev, _, dv, rd3 (o7.ext _ _ b12), ?_⟩
          rw [ptrW_ptr]
          refine ⟨plv, prv, rd2 (o7.cell (i := 1) rfl), ?_⟩
          rw [ptrW_ptr]
          refine ⟨qlv, qrv, rd2 (o7.cell (i := 0) rfl), ?_⟩
          refine s71 _ _ _ _ _ _ _ _ _ p.2 q.1 _ _ _ (sl_one' ipl.row) (sl_one' iqr.row) (by omega) (he.ext (o4.ext.trans o7.ext)) (hT _ _ (e04.trans o7.ext) ht) (hd.ext (o4.ext.trans o7.ext)) (ipr.ext o7.ext) (iql.ext o7.ext) fun h8 e8 => ⟨_, rfl, ?_⟩
          exact go _ h8 (by unfold edgeB; rw [hr, Bool.true_and]) (o7'.later e8)
        · dsimp only
          rw [xs_e]
          show cond true _ _
          rw [cond_true, nth0, nth1, nth2, nth3, nth4, nth5, nth6, boolW_bool, intK_int, intK_int, i64_id (by omega) (by omega)]
          refine ih (by omega) xs h' (o.sub (List.sublist_cons_self _ _)) hxl fun j y hy => ?_
          obtain ⟨p2, hp2, hy2⟩ := hx j y hy
          refine ⟨p2, hp2, ?_⟩
          obtain rfl : m = ps.length := by omega
          rw [hy2]
          by_cases h1 : j < i
          · rw [if_pos h1, if_pos (by omega)]
          · by_cases h2 : j = i
            · rw [if_neg h1, if_pos h2, if_pos (by omega)]
            · rw [if_neg h1, if_neg h2, if_neg (by omega)]
      refine key2 0 (by omega) xs h6 o6 hxl fun j y hy => ?_
      obtain ⟨p2, hp2, hy2⟩ := hx j y hy
      refine ⟨p2, hp2, ?_⟩
      rw [hy2]
      by_cases h1 : j < i
      · rw [if_pos h1, if_pos h1]
      · rw [if_neg h1, if_neg h1]
        by_cases h2 : j = i
        · rw [if_pos h2]; rfl
        · rw [if_neg h2]
    · dsimp only
      rw [xs_e]
      show cond true _ _
      rw [cond_true, nth0]
      have hgl : (graphL S ps).length = ps.length := by unfold graphL; simp
      refine hk _ h' (e04.trans o.ext) ⟨⟨xs.map Prod.fst, Row.cells (o.cell (i := 0) rfl) (by simp [hxl]), by simp [hxl, hgl], fun j v hv => ?_⟩⟩
      simp only [List.getElem?_map, Option.map_eq_some_iff] at hv
      obtain ⟨x, hxj, rfl⟩ := hv
      obtain ⟨p, hp, hx2⟩ := hx j x hxj
      have hj := (List.getElem?_eq_some_iff.mp hp).1
      rw [if_pos (by omega)] at hx2
      have hrow : (St xs)[j + 1]? = some (bufR x.1 (Z x.2)) := rowsR_at hxj
      have hr := edgeUp_rng (S := S) (ps := ps) (pR := p.2) (k := ps.length) (by omega)
      refine ⟨edgeUp S ps p.2 ps.length, by unfold graphL; simp [hp], ?_⟩
      have := o.row hrow
      rw [hx2] at this
      exact ⟨this, by omega, hr.2⟩
  refine key 0 (by omega) (List.replicate ps.length (.slice none 0 0, [])) h5 ?_ (by simp) fun j x hx => ?_
  · have := o5.add_nils ps.length
    refine this.perm ?_
    show List.Perm (cellR gb ((List.replicate ps.length ((Value.slice none 0 0, ([] : List Int)) : Value × List Int)).map Prod.fst) :: rowsR _) _
    rw [List.map_replicate]
    exact (List.perm_append_comm (l₁ := [_]) (l₂ := rowsR _))
  · rw [List.getElem?_replicate] at hx
    split at hx
    · rename_i hj
      obtain rfl := Option.some.inj hx
      exact ⟨ps[j], List.getElem?_eq_getElem hj, by simp⟩
    · cases hx
end Go.Proofs.YtnlhnlmnlfmojaaDoor.Am

namespace Go.Proofs.YtnlhnlmnlfmojaaDoor.Am
open Go Go.Proofs Sys Go.Lib
set_option linter.unusedVariables false
set_option linter.unusedSimpArgs false
set_option maxRecDepth 100000
variable {D : Orc} {T : H → Prop}

theorem spec25 (c : Cl25 D) {a b : Value} {l m : List Int} {h : H} {k : Kv} {kp : Kp} (ra : Ir h a l) (rb : Ir h b m) (hk : k (.bool (decide (l = m))) h) : D 25 [a, b] h k kp := by
  refine c _ _ _ _ _ ?_
  unfold F25
  have hl := ra.len
  have hm := rb.len
  rw [ra.len_, rb.len_, cond_ne]
  refine ⟨fun hne => ?_, fun heq => ?_⟩
  · have : decide (l = m) = false := decide_eq_false fun h => hne (by rw [h])
    rw [this] at hk; exact hk
  have hlen : l.length = m.length := by omega
  intro I hI
  have key : ∀ (n i : Nat), l.length - i ≤ n → i ≤ l.length → decide (l.drop i = m.drop i) = decide (l = m) → I [a, b, .int .i64 ((i : Nat) : Int)] h := by
    intro n
    induction n with
    | zero =>
      intro i hn hi he
      refine hI _ _ _ _ ?_
      unfold round25_4
      rw [intK_int, ra.len_, cond_dec]
      refine ⟨fun hlt => by omega, fun _ => ?_⟩
      rw [List.drop_eq_nil_of_le (by omega), List.drop_eq_nil_of_le (by omega)] at he
      have : decide (l = m) = true := by rw [← he]; rfl
      rw [this] at hk; exact hk
    | succ n ih =>
      intro i hn hi he
      refine hI _ _ _ _ ?_
      unfold round25_4
      rw [intK_int, ra.len_, cond_dec]
      refine ⟨fun hlt => ?_, fun _ => ?_⟩
      · refine ra.at_ (by omega) (by omega) fun ad x hx _ hrd => ⟨x, hrd, ?_⟩
        refine rb.at_ (by omega) (by omega) fun ad2 y hy _ hrd2 => ⟨y, hrd2, ?_⟩
        rw [Int.toNat_natCast] at hx hy
        rw [(split_at hx).2.2, (split_at hy).2.2] at he
        rw [cond_ne]
        refine ⟨fun hne => ?_, fun heq => ?_⟩
        · have : decide (l = m) = false := by rw [← he]; exact decide_eq_false fun h => hne (List.cons.inj h).1
          rw [this] at hk; exact hk
        · subst heq
          rw [i64_id (by omega) (by omega)]
          refine ih (i + 1) (by omega) (by omega) ?_
          rw [← he, decide_eq_decide]
          constructor
          · intro h; rw [h]
          · intro h; exact (List.cons.inj h).2
      · rw [List.drop_eq_nil_of_le (by omega), List.drop_eq_nil_of_le (by omega)] at he
        have : decide (l = m) = true := by rw [← he]; rfl
        rw [this] at hk; exact hk
  exact key l.length 0 (by omega) (by omega) (by simp)

def SpecSameRow (D : Orc) (f : Nat) : Prop := ∀ a b (l m : List Int) h (k : Kv) kp, Ir h a l → Ir h b m → k (.bool (decide (l = m))) h → D f [a, b] h k kp
theorem same25 (c : Cl25 D) : SpecSameRow D 25 := fun a b l m h k kp ra rb hk => spec25 c ra rb hk
theorem spec24 (c : Cl24 D) (s25 : SpecSameRow D 25) {a b : Value} {l m : List Ru} {h : H} {k : Kv} {kp : Kp} (ra : Rr h a l) (rb : Rr h b m) (hk : k (.bool (decide (l = m))) h) : D 24 [a, b] h k kp := by
  refine c _ _ _ _ _ ?_
  unfold F24
  have hl : l.length < 1099511627776 := ra.len
  have hm := rb.len
  rw [ra.len_, rb.len_, cond_ne]
  refine ⟨fun hne => ?_, fun heq => ?_⟩
  · have : decide (l = m) = false := decide_eq_false fun h => hne (by rw [h])
    rw [this] at hk; exact hk
  have hlen : l.length = m.length := by omega
  intro I hI
  have key := down_ind (P := fun i => l.take i = m.take i → I [a, b, .int .i64 ((i : Nat) : Int)] h) l.length fun i hi ih2 he => by
    refine hI _ _ _ _ ?_
    unfold round24_4
    rw [intK_int, ra.len_, cond_dec]
    refine ⟨fun hlt => ?_, fun hge => ?_⟩
    · refine ra.at_ (by omega) (by omega) fun ad v1 w1 x hx _ r1 _ ix1 ix2 => ⟨v1, r1, ?_⟩
      refine rb.at_ (by omega) (by omega) fun ad v2 w2 y hy _ r2 _ iy1 iy2 => ⟨v2, r2, ?_⟩
      refine s25 _ _ _ _ _ _ _ ix1 iy1 ⟨_, rfl, ?_⟩
      refine ra.at_ (by omega) (by omega) fun ad v3 w3 x' hx' _ _ r3 ix3 ix4 => ⟨w3, r3, ?_⟩
      refine rb.at_ (by omega) (by omega) fun ad v4 w4 y' hy' _ _ r4 iy3 iy4 => ⟨w4, r4, ?_⟩
      rw [hx] at hx'
      obtain rfl := Option.some.inj hx'
      rw [hy] at hy'
      obtain rfl := Option.some.inj hy'
      rw [Int.toNat_natCast] at hx hy
      refine s25 _ _ _ _ _ _ _ ix4 iy4 ⟨_, rfl, ?_⟩
      have no : ∀ {K : Kl}, x ≠ y → (K .r [.bool false] h) → j24_4_9 D I K a b (.int .i64 ((i : Nat) : Int)) (.bool true) h := fun _ hk => by
        unfold j24_4_9
        rw [intK_int, boolW_bool, cond_true]; exact hk
      have nk : x ≠ y → k (.bool false) h := fun hne => by
        have : decide (l = m) = false := decide_eq_false fun h => hne (by rw [h, hy] at hx; exact (Option.some.inj hx).symm)
        rw [this] at hk; exact hk
      rw [Bool.not_not, cond_dec]
      refine ⟨fun h1 => ?_, fun h1 => ?_⟩
      · by_cases h2 : x.2 = y.2
        · rw [decide_eq_true h2, Bool.not_true]
          unfold j24_4_9
          rw [intK_int, boolW_bool, cond_false, i64_id (by omega) (by omega)]
          refine ih2 (by omega) ?_
          rw [(split_at hx).2.1, (split_at hy).2.1, he, Prod.ext h1 h2]
        · rw [decide_eq_false h2, Bool.not_false]
          refine no (fun e => h2 (by rw [e])) ?_
          rw [xs_r, nth0, boolW_bool]
          exact nk fun e => h2 (by rw [e])
      · refine no (fun e => h1 (by rw [e])) ?_
        rw [xs_r, nth0, boolW_bool]
        exact nk fun e => h1 (by rw [e])
    · rw [List.take_of_length_le (by omega), List.take_of_length_le (by omega)] at he
      have : decide (l = m) = true := decide_eq_true he
      rw [this] at hk; exact hk
  exact key 0 (by omega) (by simp)
theorem spec41 (c : Cl41 D) {h : H} {k : Kv} {kp : Kp} (hk : ∀ b1 b2 s4 s6 s8 s10 h', Ad h h' b1 b2 s4 s6 s8 s10 → k (adV b1 b2) h') : D 41 [] h k kp := by
  refine c _ _ _ ?_
  unfold F41
  intro p0 hp0
  have e0 : Ext h (h.set p0 (.cells [Value.slice none 0 0, Value.slice none 0 0])) := Ext.new hp0
  have b0 : (h.set p0 (.cells [Value.slice none 0 0, Value.slice none 0 0])) p0 = some (.cells [Value.slice none 0 0, Value.slice none 0 0]) := set_here
  generalize h.set p0 (.cells [Value.slice none 0 0, Value.slice none 0 0]) = h1 at e0 b0 ⊢
  refine ⟨rfl, by decide, rfl, by decide, rfl, by decide, rfl, by decide, rfl, by decide, by trivial, by decide, by trivial, by decide, by trivial, by decide, fun q1 hq1 => ?_⟩
  have e1 : Ext h1 (h1.set q1 (.cells (sgRow adSig).flatten)) := Ext.new hq1
  have g1 : (h1.set q1 (.cells (sgRow adSig).flatten)) q1 = some (.cells (sgRow adSig).flatten) := set_here
  change _ ∧ _ ∧ _ ∧ _ ∧ _ ∧ _ ∧ newSl (h1.set q1 (.cells (sgRow adSig).flatten)) _ _ _
  generalize h1.set q1 (.cells (sgRow adSig).flatten) = h2 at e1 g1 ⊢
  refine ⟨rfl, by decide, rfl, by decide, rfl, by decide, fun q2 hq2 => ?_⟩
  have e2 : Ext h2 (h2.set q2 (.cells (Z [2, 0, -2]))) := Ext.new hq2
  have g2 : (h2.set q2 (.cells (Z [2, 0, -2]))) q2 = some (.cells (Z [2, 0, -2])) := set_here
  change _ ∧ _ ∧ newSl (h2.set q2 (.cells (Z [2, 0, -2]))) _ _ _
  generalize h2.set q2 (.cells (Z [2, 0, -2])) = h3 at e2 g2 ⊢
  refine ⟨rfl, by decide, fun q3 hq3 => ?_⟩
  have e3 : Ext h3 (h3.set q3 (.cells (Z [-2]))) := Ext.new hq3
  have g3 : (h3.set q3 (.cells (Z [-2]))) q3 = some (.cells (Z [-2])) := set_here
  change _ ∧ _ ∧ _ ∧ _ ∧ _ ∧ _ ∧ _ ∧ _ ∧ _ ∧ _ ∧ _ ∧ _ ∧ newSl (h3.set q3 (.cells (Z [-2]))) _ _ _
  generalize h3.set q3 (.cells (Z [-2])) = h4 at e3 g3 ⊢
  refine ⟨rfl, by decide, rfl, by decide, rfl, by decide, rfl, by decide, rfl, by decide, rfl, by decide, fun q4 hq4 => ?_⟩
  have e4 : Ext h4 (h4.set q4 (.cells (Z [2, 1, -1, -2]))) := Ext.new hq4
  have g4 : (h4.set q4 (.cells (Z [2, 1, -1, -2]))) q4 = some (.cells (Z [2, 1, -1, -2])) := set_here
  change _ ∧ _ ∧ _ ∧ _ ∧ _ ∧ _ ∧ _ ∧ _ ∧ newSl (h4.set q4 (.cells (Z [2, 1, -1, -2]))) _ _ _
  generalize h4.set q4 (.cells (Z [2, 1, -1, -2])) = h5 at e4 g4 ⊢
  refine ⟨rfl, by decide, rfl, by decide, rfl, by decide, rfl, by decide, fun q5 hq5 => ?_⟩
  have e5 : Ext h5 (h5.set q5 (.cells (Z [1, 2, -1, -2]))) := Ext.new hq5
  have g5 : (h5.set q5 (.cells (Z [1, 2, -1, -2]))) q5 = some (.cells (Z [1, 2, -1, -2])) := set_here
  change _ ∧ _ ∧ _ ∧ _ ∧ _ ∧ _ ∧ _ ∧ _ ∧ newSl (h5.set q5 (.cells (Z [1, 2, -1, -2]))) _ _ _
  generalize h5.set q5 (.cells (Z [1, 2, -1, -2])) = h6 at e5 g5 ⊢
  refine ⟨rfl, by decide, rfl, by decide, by trivial, by decide, by trivial, by decide, fun q6 hq6 => ?_⟩
  generalize hv4 : (Value.slice (some ⟨q2, 0, none⟩) 3 3) = s4
  generalize hv6 : (Value.slice (some ⟨q3, 0, none⟩) 1 1) = s6
  generalize hv8 : (Value.slice (some ⟨q4, 0, none⟩) 4 4) = s8
  generalize hv10 : (Value.slice (some ⟨q5, 0, none⟩) 4 4) = s10
  have e6 : Ext h6 (h6.set q6 (.cells [s4, s6, s8, s10])) := Ext.new hq6
  have g6 : (h6.set q6 (.cells [s4, s6, s8, s10])) q6 = some (.cells [s4, s6, s8, s10]) := set_here
  change _ ∧ _ ∧ _ ∧ _ ∧ ptrW _ (fun ad14 => _ ∧ _ ∧ ∃ h15, wr (h6.set q6 (.cells [s4, s6, s8, s10])) ad14 _ = some h15 ∧ _)
  generalize h6.set q6 (.cells [s4, s6, s8, s10]) = h7 at e6 g6 ⊢
  have f2 := ((e2.trans e3).trans (e4.trans e5)).trans e6
  have f1 := e1.trans f2
  have f0 := e0.trans f1
  have k2 := (((e3.trans e4).trans e5).trans e6) _ _ g2
  have k3 := ((e4.trans e5).trans e6) _ _ g3
  have k4 := (e5.trans e6) _ _ g4
  have k5 := e6 _ _ g5
  have k1 := f2 _ _ g1
  have hq6' : ∀ q o, h6 q = some o → q ≠ q6 := fun q o hq hh => by subst hh; rw [hq6] at hq; cases hq
  have n2 := hq6' q2 _ (((e3.trans e4).trans e5) _ _ g2)
  have n3 := hq6' q3 _ ((e4.trans e5) _ _ g3)
  have n4 := hq6' q4 _ (e5 _ _ g4)
  have n5 := hq6' q5 _ g5
  have n1 := hq6' q1 _ (((e2.trans e3).trans (e4.trans e5)) _ _ g1)
  have p0ne : ∀ q o, h7 q = some o → h1 q = none → q ≠ p0 := fun q o hq hn hh => by subst hh; rw [b0] at hn; cases hn
  have b0' := f1 _ _ b0
  refine ⟨rfl, by decide, rfl, by decide, ?_⟩
  rw [ptrW_ptr]
  refine ⟨by trivial, rfl, h7.set p0 (.cells [.slice (some ⟨q1, 0, none⟩) 3 3, .slice (some ⟨q6, 0, none⟩) 2 2]), ?_, ?_⟩
  · simp only [wr, b0']
    rfl
  rw [ptrW_ptr]
  refine ⟨_, _, rd2 set_here, ?_⟩
  have away : ∀ q, q ≠ p0 → (h7.set p0 (.cells [.slice (some ⟨q1, 0, none⟩) 3 3, .slice (some ⟨q6, 0, none⟩) 2 2])) q = h7 q := fun q hq => set_away hq
  have d1 : q1 ≠ p0 := fun hh => by subst hh; rw [b0] at hq1; cases hq1
  have d2 : q2 ≠ p0 := fun hh => by subst hh; rw [e1 _ _ b0] at hq2; cases hq2
  have d3 : q3 ≠ p0 := fun hh => by subst hh; rw [(e1.trans e2) _ _ b0] at hq3; cases hq3
  have d4 : q4 ≠ p0 := fun hh => by subst hh; rw [((e1.trans e2).trans e3) _ _ b0] at hq4; cases hq4
  have d5 : q5 ≠ p0 := fun hh => by subst hh; rw [(((e1.trans e2).trans e3).trans e4) _ _ b0] at hq5; cases hq5
  have d6 : q6 ≠ p0 := fun hh => by subst hh; rw [((((e1.trans e2).trans e3).trans e4).trans e5) _ _ b0] at hq6; cases hq6
  have hnew : h q6 = none := (e0.trans ((((e1.trans e2).trans e3).trans e4).trans e5)).free hq6
  refine hk q1 q6 s4 s6 s8 s10 _ ⟨f0.set hp0, sr_new (by rw [away _ d1]; exact k1), by rw [away _ d6]; exact g6, hnew, n1, ?_, ?_, ?_, ?_, ?_⟩
  · subst hv4; exact ir_new (by rw [away _ d2]; exact k2) rfl (by decide) (by intro x hx; simp only [List.mem_cons, List.not_mem_nil, or_false] at hx; unfold inI; omega)
  · subst hv6; exact ir_new (by rw [away _ d3]; exact k3) rfl (by decide) (by intro x hx; simp only [List.mem_cons, List.not_mem_nil, or_false] at hx; unfold inI; omega)
  · subst hv8; exact ir_new (by rw [away _ d4]; exact k4) rfl (by decide) (by intro x hx; simp only [List.mem_cons, List.not_mem_nil, or_false] at hx; unfold inI; omega)
  · subst hv10; exact ir_new (by rw [away _ d5]; exact k5) rfl (by decide) (by intro x hx; simp only [List.mem_cons, List.not_mem_nil, or_false] at hx; unfold inI; omega)
  · intro s hs
    have hb : ∀ q n, q ≠ q6 → Blk (.slice (some ⟨q, 0, none⟩) n (n + 1)) ≠ some q6 := fun q n hq hb => hq (by rw [Blk_some (by omega)] at hb; exact Option.some.inj hb)
    subst hv4 hv6 hv8 hv10
    rcases hs with rfl | rfl | rfl | rfl
    · rw [Blk_some (by decide)]; exact fun h => n2 (Option.some.inj h)
    · rw [Blk_some (by decide)]; exact fun h => n3 (Option.some.inj h)
    · rw [Blk_some (by decide)]; exact fun h => n4 (Option.some.inj h)
    · rw [Blk_some (by decide)]; exact fun h => n5 (Option.some.inj h)

/-! ### the examples in plain Lean -/
theorem ad_right : rightS adS = true := by kernel_rfl
theorem ad_pairs : pairsL adS = [([5, 1, -1, -2], [5, -1, -2])] := by kernel_rfl
theorem ad_pairsE : pairsE adS = 0 := by kernel_rfl
theorem ad_plain : plainE adSig = 0 := by kernel_rfl
theorem ad_sig : adS.sig = adSig := rfl
abbrev adX : List Sy := extV adSig
theorem adX_len : adX.length = 6 := by kernel_rfl
theorem edge_yes {S : Sm} {pR qL o : List Int} {g : Nat} (h1 : rightS S = true) (h2 : mayB (extV S.sig) (S.sig.length : Int) pR = true) (h3 : mayB (extV S.sig) (S.sig.length : Int) qL = true) (h4 : pR.headD 0 = qL.headD 0) (hc : Cap (S2 (extV S.sig)) (defL S) pR.tail 0 o g)
    {b : Bool} (hb : canB (extV S.sig) (pR.headD 0 :: o) ((canonGo [] qL).map (shC ((g : Nat) : Int))) = b) : edgeB S pR qL = b := by
  unfold edgeB edgeX
  rw [h1, h2, h3, decide_eq_true h4, edgeX_cap hc, hb]; rfl
open Classical in
theorem can_yes {sg : List Sy} {a b : List Int} (h1 : chkTerm sg a = 0) (h2 : chkTerm sg b = 0) {τ : Int → List Int} (hτ : Sub (S2 sg) τ) (he : app τ a = app τ b) : canB sg a b = true := by
  unfold canB
  rw [h1, h2, decide_eq_true ⟨τ, hτ, he⟩]; rfl
open Classical in
theorem can_no {sg : List Sy} {a b : List Int} (h : ¬ Unif (S2 sg) a b) : canB sg a b = false := by
  unfold canB
  rw [decide_eq_false h]; simp
theorem it_ {t : List Int} (h : scan (S2 adX) 1 t = 0) : isTerm (S2 adX) t := h
theorem cap1 : Cap (S2 adX) [2] [-1, -2] 0 [-1, -2] 2 := .cut (u := []) (.inl (by decide)) (it_ (by kernel_rfl)) (.cut (u := []) (.inl (by decide)) (it_ (by kernel_rfl)) .nil)
theorem cap2 : Cap (S2 adX) [2] [2, 0, 0, 0] 0 [-1, 0] 1 := .cut (u := [0, 0]) (.inr (by decide)) (it_ (by kernel_rfl)) (.keep (by decide) (by decide) .nil)
theorem cap3 : Cap (S2 adX) [2] [1, -1, 0] 0 [1, -1, 0] 1 := .keep (by decide) (by decide) (.cut (u := []) (.inl (by decide)) (it_ (by kernel_rfl)) (.keep (by decide) (by decide) .nil))
theorem ad_edge1 : edgeB adS [5, -1, -2] [5, 1, -1, -2] = true := by
  refine edge_yes (S := adS) (pR := [5, -1, -2]) (qL := [5, 1, -1, -2]) (o := [-1, -2]) (g := 2) ad_right (by kernel_rfl) (by kernel_rfl) rfl (show Cap (S2 adX) (defL adS) (List.tail ([5, -1, -2] : List Int)) 0 _ _ by rw [ad_def]; exact cap1) ?_
  refine can_yes (τ := fun c => if c = -1 then [1, -3] else if c = -2 then [-4] else if c = -3 then [-3] else [-4]) (by kernel_rfl) (by kernel_rfl) (fun c => ?_) (by kernel_rfl)
  dsimp only
  split
  · show scan (S2 adX) 1 _ = 0; kernel_rfl
  · split
    · show scan (S2 adX) 1 _ = 0; kernel_rfl
    · split
      · show scan (S2 adX) 1 _ = 0; kernel_rfl
      · show scan (S2 adX) 1 _ = 0; kernel_rfl
theorem ad_edge2 : edgeB adS [5, 2, 0, 0, 0] [5, 1, -1, -2] = true := by
  refine edge_yes (S := adS) (pR := [5, 2, 0, 0, 0]) (qL := [5, 1, -1, -2]) (o := [-1, 0]) (g := 1) ad_right (by kernel_rfl) (by kernel_rfl) rfl (show Cap (S2 adX) (defL adS) (List.tail ([5, 2, 0, 0, 0] : List Int)) 0 _ _ by rw [ad_def]; exact cap2) ?_
  refine can_yes (τ := fun c => if c = -1 then [1, -2] else if c = -2 then [-2] else [0]) (by kernel_rfl) (by kernel_rfl) (fun c => ?_) (by kernel_rfl)
  dsimp only
  split
  · show scan (S2 adX) 1 _ = 0; kernel_rfl
  · split
    · show scan (S2 adX) 1 _ = 0; kernel_rfl
    · show scan (S2 adX) 1 _ = 0; kernel_rfl
theorem ad_edge3 : edgeB adS [5, 1, -1, 0] [5, 0, -1] = false := by
  refine edge_yes (S := adS) (pR := [5, 1, -1, 0]) (qL := [5, 0, -1]) (o := [1, -1, 0]) (g := 1) ad_right (by kernel_rfl) (by kernel_rfl) rfl (show Cap (S2 adX) (defL adS) (List.tail ([5, 1, -1, 0] : List Int)) 0 _ _ by rw [ad_def]; exact cap3) ?_
  refine can_no fun ⟨τ, _, he⟩ => ?_
  have e1 : (canonGo [] ([5, 0, -1] : List Int)).map (shC ((1 : Nat) : Int)) = [5, 0, -2] := by kernel_rfl
  rw [e1] at he
  have he : app τ [5, 1, -1, 0] = app τ [5, 0, -2] := he
  rw [app_pos (c := 5) (by decide), app_pos (c := 1) (by decide), app_pos (c := 5) (by decide), app_pos (c := 0) (by decide)] at he
  have := (List.cons.inj (List.cons.inj he).2).1
  omega
theorem ad_graph : graphL adS [([5, 1, -1, -2], [5, -1, -2])] = [[0]] := by
  unfold graphL edgeUp
  simp [ad_edge1, List.range_succ]
end Go.Proofs.YtnlhnlmnlfmojaaDoor.Am

namespace Go.Proofs.YtnlhnlmnlfmojaaDoor.Am
open Go Go.Proofs Sys Go.Lib
set_option linter.unusedVariables false
set_option linter.unusedSimpArgs false
set_option maxRecDepth 100000
variable {D : Orc} {T : H → Prop}

def fit (l : List Int) : Prop := l.length < 2 ^ 40 ∧ ∀ x ∈ l, inI x
theorem fit_lit {l : List Int} (h : (decide (l.length < 100) && l.all fun x => decide (-100 ≤ x) && decide (x ≤ 100)) = true) : fit l := by
  simp only [Bool.and_eq_true, List.all_eq_true, decide_eq_true_eq] at h
  exact ⟨by omega, fun x hx => by have := h.2 x hx; unfold inI; omega⟩
theorem fit_ir {h : H} {s : Value} {l : List Int} (r : Row h s (Z l)) (f : fit l) : Ir h s l := ⟨r, f.1, f.2⟩
/-- A row that is laid at once. -/
theorem lit_rule {h : H} {n : Nat} {l : List Int} (hn : l.length = n) (f : fit l) {K : Value → H → Prop} (hK : ∀ s h', Ext h h' → Ir h' s l → one s = true → K s h') : newSl h n (Z l) K :=
  (Hp.nil_ h).newSlN (by rw [Z_len]; exact hn) fun s h' o => hK s h' o.ext (fit_ir (o.row (i := 0) rfl) f) (sl_one' (o.row (i := 0) rfl))
theorem mark_fit {sig : List Sy} {u : List Int} (hu : isTerm (S2 sig) u) (hs : sig.length ≤ 64) (hl : u.length ≤ 512) : fit (markT (sig.length : Int) u) := by
  obtain ⟨h1, h2, h3⟩ := term_head hu
  unfold markT
  refine ⟨by simp only [List.length_cons, List.length_tail]; omega, fun x hx => ?_⟩
  rcases List.mem_cons.mp hx with rfl | hx
  · unfold inI; omega
  · have := scan_codes (S2 sig) _ 1 hu x (List.mem_of_mem_tail hx)
    rw [S2_len] at this
    unfold inI; omega
theorem gP_some {S : Sm} (h0 : (chkSys S).1 = 0) {r : Ru} (hr : r ∈ S.rules) {k : Nat} {q : Ru} (h : gP S r k = some q) : k < r.2.length ∧ ∃ u w, r.2.drop k = u ++ w ∧ isTerm (S2 S.sig) u ∧ q = (markT (S.sig.length : Int) r.1, markT (S.sig.length : Int) u) := by
  unfold gP at h
  rw [Option.bind_eq_some_iff] at h
  obtain ⟨c, hc, h⟩ := h
  split at h
  · have hk := (List.getElem?_eq_some_iff.mp hc).1
    obtain ⟨_, u, w, a, b, e⟩ := sub_fit h0 hr hk
    rw [e] at h
    exact ⟨hk, u, w, a, b, (Option.some.inj h).symm⟩
  · cases h
theorem pairs_fit {S : Sm} : (pairsL S).length < 2 ^ 40 ∧ ∀ q ∈ pairsL S, fit q.1 ∧ fit q.2 := by
  unfold pairsL
  split
  · rename_i h0
    split
    · exact ⟨by simp, by simp⟩
    · refine ⟨by omega, fun q hq => ?_⟩
      unfold allP at hq
      obtain ⟨r, hr, hq⟩ := List.mem_flatMap.mp hq
      unfold rowP at hq
      obtain ⟨k, _, hk⟩ := List.mem_filterMap.mp hq
      obtain ⟨hkl, u, w, hd, hu, rfl⟩ := gP_some h0 hr hk
      obtain ⟨g1, g2, g3, g4⟩ := right_ok (right_sys h0)
      have hs64 := (plain_ok g1).2
      obtain ⟨q1, q2, q3, q4, _⟩ := ruleE_ok (g4 r hr)
      have hul : u.length ≤ r.2.length := by
        have h1 := congrArg List.length hd
        simp only [List.length_drop, List.length_append] at h1
        omega
      exact ⟨mark_fit q1 hs64 q3, mark_fit hu hs64 (by omega)⟩
  · exact ⟨by simp, by simp⟩
theorem prR_mem {xs : List ((Value × Value) × Ru)} {x : (Value × Value) × Ru} (hx : x ∈ xs) : bufR x.1.1 (Z x.2.1) ∈ prR xs ∧ bufR x.1.2 (Z x.2.2) ∈ prR xs :=
  ⟨List.mem_flatMap.mpr ⟨x, hx, by simp⟩, List.mem_flatMap.mpr ⟨x, hx, by simp⟩⟩
/-- Rules, as they lie in memory. -/
theorem pr_rr {h0 h : H} {L : List Res} {v : Value} {xs : List ((Value × Value) × Ru)} (o : Hp h0 h L) (hk : bufK 2 v (ruRow (xs.map Prod.fst)) ∈ L) (hr : ∀ x ∈ xs, bufR x.1.1 (Z x.2.1) ∈ L ∧ bufR x.1.2 (Z x.2.2) ∈ L) (hl : xs.length < 2 ^ 40) (hf : ∀ x ∈ xs, fit x.2.1 ∧ fit x.2.2) : Rr h v (xs.map Prod.snd) := by
  refine ⟨⟨xs.map Prod.fst, BufK.row (o.ok _ hk), by simp, fun i u hu => ?_⟩, by simpa using hl⟩
  simp only [List.getElem?_map, Option.map_eq_some_iff] at hu
  obtain ⟨x, hx, rfl⟩ := hu
  have hm := List.mem_of_getElem? hx
  obtain ⟨a, b⟩ := hr x hm
  obtain ⟨f1, f2⟩ := hf x hm
  exact ⟨x.2, by simp [hx], fit_ir (Buf.row (o.ok _ a)) f1, fit_ir (Buf.row (o.ok _ b)) f2⟩
theorem of_rr {S : Sm} {h0 h : H} {L : List Res} {v : Value} {xs : List ((Value × Value) × Ru)} (o : Hp h0 h (bufK 2 v (ruRow (xs.map Prod.fst)) :: (prR xs ++ L))) (hx : xs.map Prod.snd = pairsL S) : Rr h v (pairsL S) := by
  have hf := pairs_fit (S := S)
  rw [← hx] at hf ⊢
  refine pr_rr o (by simp) (fun x hx => ⟨?_, ?_⟩) (by simpa using hf.1) fun x hx => hf.2 x.2 (List.mem_map_of_mem hx)
  · have := (prR_mem hx).1; simp [this]
  · have := (prR_mem hx).2; simp [this]
theorem spec19 (hT : Stays T) (c : Cl19 D) (c41 : Cl41 D) (s20 : SpecExt D 20 T) (s22 : SpecOf D 22 T) (s42 : SpecGraph D 42 T) (s25 : SpecSameRow D 25) (s43 : SpecEdge D 43 T)
    {h : H} {k : Kv} {kp : Kp} (ht : T h) (hk : ∀ h', Ext h h' → k (.bool true) h') : D 19 [] h k kp := by
  refine c _ _ _ ?_
  unfold F19
  refine spec41 c41 fun b1 b2 x4 x6 x8 x10 h1 ad => ⟨_, _, rfl, ?_⟩
  refine two_rule rfl rfl (by trivial) fun p4 h2 _ hp4 e2 => ldj hp4 rfl ?_
  have e02 := ad.ext.trans e2
  have hs2 := ad.ss.ext e2
  refine s20 _ adSig _ _ _ (ad.sig.ext e2) (hT _ _ e02 ht) fun xv h3 e3 bx => ⟨_, _, rfl, ?_⟩
  have e03 := e02.trans e3
  rw [ptrW_ptr]
  refine ⟨_, _, rd2 (e3 _ _ hp4), ?_⟩
  refine s22 _ adS _ _ _ (hs2.ext e3) (hT _ _ e03 ht) fun lv xs h4 o4 hxs => ⟨_, _, rfl, ?_⟩
  have rl := of_rr (S := adS) (L := []) (by rw [List.append_nil]; exact o4) hxs
  rw [ad_pairs] at rl
  have e4 := o4.ext
  have e04 := e03.trans e4
  rw [(bx.row.ext e4).len, sgRow_len, adX_len, show (!(((6 : Nat) : Int) != 6)) = true from rfl, cond_true, rl.len_]
  rw [show (!((([([5, 1, -1, -2], [5, -1, -2])] : List Ru).length : Int) != 1)) = true from rfl, cond_true, ad_plain, show (!((0 : Int) != 0)) = true from rfl, cond_true, ad_pairsE, show ((0 : Int) != 0) = false from rfl]
  unfold j19__5
  rw [boolW_bool, cond_false, ptrW_ptr]
  have e24 := e3.trans e4
  refine ⟨_, _, rd2 (e24 _ _ hp4), ?_⟩
  refine s42 _ adS _ _ _ _ _ (hs2.ext e24) (hT _ _ e04 ht) rl fun gv h5 e5 rg => ⟨_, rfl, ?_⟩
  rw [ad_graph] at rg
  have e05 := e04.trans e5
  have e25 := e24.trans e5
  refine (rl.ext e5).at_ (by decide) (by decide) fun a1 v1 w1 x1 hx1 _ r1 _ i1 _ => ⟨v1, r1, ?_⟩
  have : ([5, 1, -1, -2], [5, -1, -2]) = x1 := Option.some.inj hx1
  subst this
  refine ⟨rfl, by decide, rfl, by decide, rfl, by decide, rfl, by decide, lit_rule (l := [5, 1, -1, -2]) rfl (fit_lit rfl) fun s6 h6 e6 i6 n6 => ?_⟩
  refine s25 _ _ _ _ _ _ _ (i1.ext e6) i6 ⟨_, rfl, ?_⟩
  rw [decide_eq_true rfl, cond_true]
  refine (rl.ext (e5.trans e6)).at_ (by decide) (by decide) fun a2 v2 w2 x2 hx2 _ _ r2 _ i2 => ⟨w2, r2, ?_⟩
  have : ([5, 1, -1, -2], [5, -1, -2]) = x2 := Option.some.inj hx2
  subst this
  refine ⟨rfl, by decide, rfl, by decide, rfl, by decide, lit_rule (l := [5, -1, -2]) rfl (fit_lit rfl) fun s7 h7 e7 i7 n7 => ?_⟩
  refine s25 _ _ _ _ _ _ _ (i2.ext e7) i7 ⟨_, rfl, ?_⟩
  rw [decide_eq_true rfl]
  have e57 := e6.trans e7
  have e27 := e25.trans e57
  have e07 := e05.trans e57
  unfold j19__8
  rw [boolW_bool, ptrW_ptr]
  refine ⟨_, _, rd2 (e27 _ _ hp4), ?_⟩
  refine ⟨rfl, by decide, rfl, by decide, rfl, by decide, rfl, by decide, lit_rule (l := [5, 1, -1, 0]) rfl (fit_lit rfl) fun s8 h8 e8 i8 n8 => ⟨n8, by decide, ?_⟩⟩
  refine ⟨rfl, by decide, rfl, by decide, rfl, by decide, lit_rule (l := [5, 0, -1]) rfl (fit_lit rfl) fun s9 h9 e9 i9 n9 => ⟨n9, by decide, ?_⟩⟩
  have e79 := e8.trans e9
  refine s43 _ adS _ _ _ _ [5, 1, -1, 0] [5, 0, -1] _ _ _ rfl rfl (hs2.ext (e27.trans e79)) (hT _ _ (e07.trans e79) ht) (i8.ext e9) i9 fun h10 e10 => ⟨_, rfl, ?_⟩
  have e710 := e79.trans e10
  rw [ptrW_ptr]
  refine ⟨_, _, rd2 ((e27.trans e710) _ _ hp4), ?_⟩
  refine ⟨rfl, by decide, rfl, by decide, rfl, by decide, rfl, by decide, rfl, by decide, lit_rule (l := [5, 2, 0, 0, 0]) rfl (fit_lit rfl) fun s11 h11 e11 i11 n11 => ⟨n11, by decide, ?_⟩⟩
  refine ⟨rfl, by decide, rfl, by decide, rfl, by decide, rfl, by decide, lit_rule (l := [5, 1, -1, -2]) rfl (fit_lit rfl) fun s12 h12 e12 i12 n12 => ⟨n12, by decide, ?_⟩⟩
  have e712 := e710.trans (e11.trans e12)
  refine s43 _ adS _ _ _ _ [5, 2, 0, 0, 0] [5, 1, -1, -2] _ _ _ rfl rfl (hs2.ext (e27.trans e712)) (hT _ _ (e07.trans e712) ht) (i11.ext e12) i12 fun h13 e13 => ⟨_, rfl, ?_⟩
  have e713 := e712.trans e13
  have e513 := e57.trans e713
  rw [cond_true, ad_edge2, ad_edge3]
  refine (bx.row.ext (e4.trans (e5.trans e513))).at_ (by decide) (by rw [sgRow_len, adX_len]; decide) fun a3 u hu hrd _ => ?_
  have : u = [.string ⟨#[112, 108, 117, 115, 35]⟩, .int .i64 2] := by
    have h1 : (sgRow adX)[(5 : Int).toNat]? = some [.string ⟨#[112, 108, 117, 115, 35]⟩, .int .i64 2] := by kernel_rfl
    rw [h1] at hu
    exact (Option.some.inj hu).symm
  subst this
  refine ⟨_, _, hrd, rfl, by decide, rfl, by decide, ?_⟩
  rw [show (((ByteArray.mk #[112, 108, 117, 115, 35]).toList == (ByteArray.mk #[112, 108, 117, 115, 35]).toList) && (((2 : Int) == (2 : Int)) && true)) = true from by simp, cond_true]
  have rg13 := rg.ext e513
  rw [rg13.len_, show (((([[0]] : List (List Int)).length : Nat) : Int) == 1) = true from rfl, cond_true]
  refine rg13.at_ (by decide) (by decide) fun a4 v4 t4 ht4 r4 i4 => ⟨v4, r4, ?_⟩
  have : [0] = t4 := Option.some.inj ht4
  subst this
  rw [i4.len_, show (((([0] : List Int).length : Nat) : Int) == 1) = true from rfl, cond_true]
  refine rg13.at_ (by decide) (by decide) fun a5 v5 t5 ht5 r5 i5 => ⟨v5, r5, ?_⟩
  have : [0] = t5 := Option.some.inj ht5
  subst this
  refine i5.at_ (by decide) (by decide) fun a6 x hx _ r6 => ⟨x, r6, ?_⟩
  have : 0 = x := Option.some.inj hx
  subst this
  exact hk h13 (e05.trans e513)
end Go.Proofs.YtnlhnlmnlfmojaaDoor.Am

namespace Go.Proofs.YtnlhnlmnlfmojaaDoor.Am
open Go Go.Proofs Sys Go.Lib
set_option linter.unusedVariables false
set_option linter.unusedSimpArgs false
set_option maxRecDepth 100000
variable {D : Orc} {T : H → Prop}

def SpecShown (D : Orc) (f : Nat) (T : H → Prop) : Prop := ∀ h (k : Kv) kp, T h → (∀ h', Ext h h' → k (.bool true) h') → D f [] h k kp
theorem sy_same (s : ByteArray) (x : Int) : ((s.toList == s.toList) && ((x == x) && true)) = true := by simp
theorem lawExtend (hT : Stays T) (c : Cl6 D) (s19 : SpecShown D 19 T) (s20 : SpecExt D 20 T) (s21 : SpecExt D 21 T) {s : Value} {sig : List Sy} {h : H} {k : Kv} {kp : Kp} (hs : Sr h s sig) (ht : T h) (hk : ∀ h', Ext h h' → k (.bool true) h') : D 6 [s] h k kp := by
  refine c _ _ _ _ ?_
  unfold F6
  refine s19 _ _ _ ht fun h1 e1 => ⟨_, rfl, ?_⟩
  refine s20 _ sig _ _ _ (hs.ext e1) (hT _ _ e1 ht) fun va h2 e2 ba => ⟨_, _, rfl, ?_⟩
  have e12 := e1.trans e2
  refine s21 _ sig _ _ _ (hs.ext e12) (hT _ _ e12 ht) fun vb h3 e3 bb => ⟨_, _, rfl, ?_⟩
  have o3 : Hp h1 h3 [bufK 2 vb (sgRow (extV sig)), bufK 2 va (sgRow (extV sig))] := ((Hp.nil_ h1).add_bufK e2 ba).add_bufK e3 bb
  rw [show (!(!true)) = true from rfl, cond_true, show (!(plainE sig != plainE sig)) = true from by simp, cond_true, (o3.rowK (i := 1) rfl).len, (o3.rowK (i := 0) rfl).len]
  rw [show ((((sgRow (extV sig)).length : Nat) : Int) != (((sgRow (extV sig)).length : Nat) : Int)) = false from by simp]
  unfold j6__5
  rw [boolW_bool, cond_false]
  have hlen : (extV sig).length < 1099511627776 := (ext_sr ba.row).len
  generalize hX : extV sig = X at o3 hlen
  intro I hI
  have key := down_ind (P := fun i => ∀ (h' : H), Hp h1 h' [bufK 2 vb (sgRow X), bufK 2 va (sgRow (List.replicate i (ByteArray.mk #[], (0 : Int)) ++ X.drop i))] → I [s, va, vb, .int .i64 ((i : Nat) : Int)] h') X.length
    fun i hi ih h' o => by
    refine hI _ _ _ _ _ ?_
    unfold round6_7
    have hl1 : (sgRow (List.replicate i (ByteArray.mk #[], (0 : Int)) ++ X.drop i)).length = X.length := by rw [sgRow_len]; simp; omega
    rw [intK_int, (o.rowK (i := 1) rfl).len, hl1, cond_dec]
    refine ⟨fun hlt => ?_, fun hge => ?_⟩
    · have hi1 : i < X.length := by omega
      have hxi : X[i]? = some X[i] := List.getElem?_eq_getElem hi1
      have hdrop := (split_at hxi).2.2
      refine (o.rowK (i := 1) rfl).at_ (by omega) (by rw [hl1]; omega) fun ad v hv hrd _ => ?_
      rw [Int.toNat_natCast] at hv
      have : (sgRow (List.replicate i (ByteArray.mk #[], (0 : Int)) ++ X.drop i))[i]? = some (cellsOf X[i]) := by
        unfold sgRow
        rw [List.getElem?_map, List.getElem?_append_right (by simp)]
        simp [hxi]
      rw [this] at hv
      obtain rfl := Option.some.inj hv
      refine ⟨_, _, hrd, ?_⟩
      refine (o.rowK (i := 0) rfl).at_ (by omega) (by rw [sgRow_len]; omega) fun ad2 v hv hrd2 _ => ?_
      rw [Int.toNat_natCast] at hv
      have : (sgRow X)[i]? = some (cellsOf X[i]) := by
        unfold sgRow
        rw [List.getElem?_map, hxi]; rfl
      rw [this] at hv
      obtain rfl := Option.some.inj hv
      refine ⟨_, _, hrd2, ?_⟩
      rw [sy_same, Bool.not_true, cond_false]
      refine o.putK (i := 1) (j := i) rfl (by rw [hl1]; exact hi1) rfl rfl rfl fun h2' o2 => ?_
      rw [i64_id (by omega) (by omega)]
      refine ih hi1 h2' ?_
      have e : (sgRow (List.replicate i (ByteArray.mk #[], (0 : Int)) ++ X.drop i)).set i [Value.string (ByteArray.mk #[]), Value.int .i64 0] = sgRow (List.replicate (i + 1) (ByteArray.mk #[], (0 : Int)) ++ X.drop (i + 1)) := by
        have e1 : sgRow (List.replicate i (ByteArray.mk #[], (0 : Int)) ++ X.drop i) = (sgRow (List.replicate i (ByteArray.mk #[], (0 : Int)))) ++ (cellsOf X[i] :: sgRow (X.drop (i + 1))) := by
          rw [hdrop, sgRow_app]; rfl
        rw [e1, List.set_append_right _ _ (by rw [sgRow_len]; simp)]
        rw [sgRow_len, List.length_replicate, Nat.sub_self, List.set_cons_zero, List.replicate_succ', sgRow_app, sgRow_app, List.append_assoc]
        rfl
      rw [e] at o2
      exact o2
    · dsimp only
      rw [xs_e]
      show cond true _ _
      rw [cond_true, nth0, nth1]
      have e1h := e1.trans o.ext
      refine s20 _ sig _ _ _ (hs.ext e1h) (hT _ _ e1h ht) fun vc h4 e4 bc => ⟨_, _, rfl, ?_⟩
      rw [hX] at bc
      have rb := (o.later e4).rowK (i := 0) rfl
      have rc := bc.row
      intro I2 hI2
      have key2 := down_ind (P := fun i => I2 [vb, vc, .int .i64 ((i : Nat) : Int)] h4) X.length fun i hi ih2 => by
        refine hI2 _ _ _ _ ?_
        unfold round6_14
        rw [intK_int, rb.len, sgRow_len, cond_dec]
        refine ⟨fun hlt => ?_, fun hge => ?_⟩
        · have hi1 : i < X.length := by omega
          have hsg : (sgRow X)[i]? = some (cellsOf X[i]) := by
            unfold sgRow
            rw [List.getElem?_map, List.getElem?_eq_getElem hi1]; rfl
          refine rc.at_ (by omega) (by rw [sgRow_len]; omega) fun ad v hv hrd _ => ?_
          rw [Int.toNat_natCast, hsg] at hv
          obtain rfl := Option.some.inj hv
          refine ⟨_, _, hrd, ?_⟩
          refine rb.at_ (by omega) (by rw [sgRow_len]; omega) fun ad v hv hrd _ => ?_
          rw [Int.toNat_natCast, hsg] at hv
          obtain rfl := Option.some.inj hv
          refine ⟨_, _, hrd, ?_⟩
          rw [sy_same, Bool.not_true, cond_false, i64_id (by omega) (by omega)]
          exact ih2 hi1
        · dsimp only
          rw [xs_e]
          show cond true _ _
          rw [cond_true, nth0, nth1, rc.len, rb.len]
          have := hk h4 (e1h.trans e4)
          simpa using this
      exact key2 0 (by omega)
  exact key 0 (by omega) h3 (by simpa using o3)
/-! ### rows of pairs that are written -/
def shp (xs : List ((Value × Value) × Ru)) : List ((Value × Value) × Nat × Nat) := xs.map fun x => (x.1, x.2.1.length, x.2.2.length)
theorem shp_at {xs ys : List ((Value × Value) × Ru)} (h : shp ys = shp xs) {i : Nat} {x : (Value × Value) × Ru} (hx : xs[i]? = some x) : ∃ y, ys[i]? = some y ∧ y.1 = x.1 ∧ y.2.1.length = x.2.1.length ∧ y.2.2.length = x.2.2.length := by
  have h1 : (shp ys)[i]? = some (x.1, x.2.1.length, x.2.2.length) := by rw [h]; simp [shp, hx]
  simp only [shp, List.getElem?_map, Option.map_eq_some_iff] at h1
  obtain ⟨y, hy, e⟩ := h1
  injection e with e1 e2
  injection e2 with e2 e3
  exact ⟨y, hy, e1, e2, e3⟩
theorem shp_fst {xs ys : List ((Value × Value) × Ru)} (h : shp ys = shp xs) : ys.map Prod.fst = xs.map Prod.fst := by
  have := congrArg (List.map Prod.fst) h
  simp only [shp, List.map_map] at this
  exact this
theorem shp_set {ys : List ((Value × Value) × Ru)} {i : Nat} {y z : (Value × Value) × Ru} (hy : ys[i]? = some y) (h1 : z.1 = y.1) (h2 : z.2.1.length = y.2.1.length) (h3 : z.2.2.length = y.2.2.length) : shp (ys.set i z) = shp ys := by
  unfold shp
  rw [List.map_set, h1, h2, h3]
  apply List.ext_getElem?
  intro j
  rw [List.getElem?_set]
  split
  · rename_i e
    subst e
    rw [if_pos (by rw [List.length_map]; exact (List.getElem?_eq_some_iff.mp hy).1), List.getElem?_map, hy]; rfl
  · rfl
theorem prR_at : ∀ {ys : List ((Value × Value) × Ru)} {i : Nat} {y : (Value × Value) × Ru}, ys[i]? = some y → (prR ys)[2 * i]? = some (bufR y.1.1 (Z y.2.1)) ∧ (prR ys)[2 * i + 1]? = some (bufR y.1.2 (Z y.2.2))
  | [], i, y, h => by simp at h
  | x :: ys, 0, y, h => by
    obtain rfl : x = y := by simpa using h
    exact ⟨rfl, rfl⟩
  | x :: ys, i + 1, y, h => by
    have := prR_at (ys := ys) (i := i) (y := y) (by simpa using h)
    have e : prR (x :: ys) = bufR x.1.1 (Z x.2.1) :: bufR x.1.2 (Z x.2.2) :: prR ys := rfl
    rw [e, show 2 * (i + 1) = 2 * i + 2 by omega]
    exact this
theorem prR_set : ∀ {ys : List ((Value × Value) × Ru)} {i : Nat} {y : (Value × Value) × Ru} (l : List Int), ys[i]? = some y → (prR ys).set (2 * i) (bufR y.1.1 (Z l)) = prR (ys.set i (y.1, (l, y.2.2))) ∧ (prR ys).set (2 * i + 1) (bufR y.1.2 (Z l)) = prR (ys.set i (y.1, (y.2.1, l)))
  | [], i, y, l, h => by simp at h
  | x :: ys, 0, y, l, h => by
    obtain rfl : x = y := by simpa using h
    exact ⟨rfl, rfl⟩
  | x :: ys, i + 1, y, l, h => by
    have := prR_set (ys := ys) (i := i) (y := y) l (by simpa using h)
    have e : ∀ x ys, prR (x :: ys) = bufR x.1.1 (Z x.2.1) :: bufR x.1.2 (Z x.2.2) :: prR ys := fun _ _ => rfl
    rw [e, show 2 * (i + 1) = 2 * i + 2 by omega]
    refine ⟨?_, ?_⟩
    · show _ :: _ :: (prR ys).set (2 * i) _ = prR (x :: ys.set i _)
      rw [this.1, e]
    · show _ :: _ :: (prR ys).set (2 * i + 1) _ = prR (x :: ys.set i _)
      rw [this.2, e]
theorem prR_len (ys : List ((Value × Value) × Ru)) : (prR ys).length = 2 * ys.length := by
  induction ys with
  | nil => rfl
  | cons y ys ih => show (prR ys).length + 2 = _; rw [ih, List.length_cons]; omega
theorem prR_in {ys : List ((Value × Value) × Ru)} {K0 : Res} {R : List Res} {i : Nat} {y : (Value × Value) × Ru} (hy : ys[i]? = some y) : (K0 :: (prR ys ++ R))[2 * i + 1]? = some (bufR y.1.1 (Z y.2.1)) ∧ (K0 :: (prR ys ++ R))[2 * i + 2]? = some (bufR y.1.2 (Z y.2.2)) := by
  have hl := prR_len ys
  have hi := (List.getElem?_eq_some_iff.mp hy).1
  obtain ⟨h1, h2⟩ := prR_at hy
  refine ⟨?_, ?_⟩
  · rw [List.getElem?_cons_succ, List.getElem?_append_left (by omega)]; exact h1
  · rw [List.getElem?_cons_succ, List.getElem?_append_left (by omega)]; exact h2
theorem prR_put {ys : List ((Value × Value) × Ru)} {K0 : Res} {R : List Res} {i : Nat} {y : (Value × Value) × Ru} (l : List Int) (hy : ys[i]? = some y) : (K0 :: (prR ys ++ R)).set (2 * i + 1) (bufR y.1.1 (Z l)) = K0 :: (prR (ys.set i (y.1, (l, y.2.2))) ++ R) ∧ (K0 :: (prR ys ++ R)).set (2 * i + 2) (bufR y.1.2 (Z l)) = K0 :: (prR (ys.set i (y.1, (y.2.1, l))) ++ R) := by
  have hl := prR_len ys
  have hi := (List.getElem?_eq_some_iff.mp hy).1
  obtain ⟨h1, h2⟩ := prR_set l hy
  refine ⟨?_, ?_⟩
  · rw [List.set_cons_succ, List.set_append_left _ _ (by omega), h1]
  · rw [List.set_cons_succ, List.set_append_left _ _ (by omega), h2]
theorem Z_put {l : List Int} {j : Nat} {x : Int} : (Z l).set j (.int .i64 x) = Z (l.set j x) := by simp [Z, List.map_set]
theorem lawOf (hT : Stays T) (c : Cl7 D) (s19 : SpecShown D 19 T) (s22 : SpecOf D 22 T) (s23 : SpecOf D 23 T) (c24 : Cl24 D) (s25 : SpecSameRow D 25) {va : Value} {S : Sm} {h : H} {k : Kv} {kp : Kp} (hS : Ss h va S) (ht : T h) (hk : ∀ h', Ext h h' → k (.bool true) h') : D 7 [va] h k kp := by
  refine c _ _ _ _ ?_
  obtain ⟨sa, ra, rfl, hsa, hra⟩ := hS.ex
  unfold F7
  rw [aggW_agg]
  intro p1 hp1
  have e1 : Ext h (h.set p1 (.cells #[sa, ra].toList)) := Ext.new hp1
  have b1 : (h.set p1 (.cells #[sa, ra].toList)) p1 = some (.cells [sa, ra]) := set_here
  generalize h.set p1 (.cells #[sa, ra].toList) = h1 at e1 b1 ⊢
  refine s19 _ _ _ (hT _ _ e1 ht) fun h2 e2 => ⟨_, rfl, ?_⟩
  have e12 := e1.trans e2
  have b2 := e2 _ _ b1
  have hS2 := hS.ext e12
  rw [ptrW_ptr]
  refine ⟨sa, ra, rd2 b2, ?_⟩
  refine s22 _ S _ _ _ hS2 (hT _ _ e12 ht) fun v3 xa h3 o3 hxa => ⟨_, _, rfl, ?_⟩
  rw [ptrW_ptr]
  refine ⟨sa, ra, rd2 (o3.ext _ _ b2), ?_⟩
  refine s23 _ S _ _ _ (hS2.ext o3.ext) (hT _ _ (e12.trans o3.ext) ht) fun v4 xb h4 o4 hxb => ⟨_, _, rfl, ?_⟩
  have rA := (of_rr (S := S) (L := []) (by rw [List.append_nil]; exact o3) hxa).ext o4.ext
  have rB := of_rr (S := S) (L := []) (by rw [List.append_nil]; exact o4) hxb
  refine spec24 c24 s25 rA rB ⟨_, rfl, ?_⟩
  rw [decide_eq_true rfl]
  have hxal : xa.length < 2 ^ 40 := by
    have := (pairs_fit (S := S)).1
    rw [← hxa] at this; simpa using this
  have hfa : ∀ x ∈ xa, fit x.2.1 ∧ fit x.2.2 := fun x hx => (pairs_fit (S := S)).2 x.2 (by rw [← hxa]; exact List.mem_map_of_mem hx)
  have o : Hp h2 h4 (bufK 2 v3 (ruRow (xa.map Prod.fst)) :: (prR xa ++ (bufK 2 v4 (ruRow (xb.map Prod.fst)) :: prR xb))) := by
    refine (o3.join o4).perm ?_
    exact List.perm_append_comm (l₁ := bufK 2 v3 (ruRow (xa.map Prod.fst)) :: prR xa)
  intro I hI
  have key := down_ind (P := fun i => ∀ (ys : List ((Value × Value) × Ru)) (h' : H), shp ys = shp xa → Hp h2 h' (bufK 2 v3 (ruRow (xa.map Prod.fst)) :: (prR ys ++ (bufK 2 v4 (ruRow (xb.map Prod.fst)) :: prR xb))) →
      I [Pt p1, .bool true, v3, .int .i64 (pairsE S), v4, .int .i64 (pairsE S), .bool true, .int .i64 ((i : Nat) : Int)] h') xa.length
    fun i hi ih ys h' hsh o => by
    refine hI _ _ _ _ _ _ _ _ _ ?_
    unfold round7_6
    rw [boolW_bool, intK_int, intK_int, boolW_bool, intK_int, (o.rowK (i := 0) rfl).len, ruRow_len, List.length_map, cond_dec]
    refine ⟨fun hlt => ?_, fun hge => ?_⟩
    · have hi1 : i < xa.length := by omega
      have hxi : xa[i]? = some xa[i] := List.getElem?_eq_getElem hi1
      have hrw : (ruRow (xa.map Prod.fst))[i]? = some [xa[i].1.1, xa[i].1.2] := by simp [ruRow, hi1]
      have hfx := hfa _ (List.getElem_mem hi1)
      have hl1 : xa[i].2.1.length < 1099511627776 := hfx.1.1
      have hl2 : xa[i].2.2.length < 1099511627776 := hfx.2.1
      intro I2 hI2
      have key2 := down_ind (P := fun m => ∀ (ys : List ((Value × Value) × Ru)) (h' : H), shp ys = shp xa → Hp h2 h' (bufK 2 v3 (ruRow (xa.map Prod.fst)) :: (prR ys ++ (bufK 2 v4 (ruRow (xb.map Prod.fst)) :: prR xb))) →
          I2 [Pt p1, .bool true, v3, .int .i64 (pairsE S), v4, .int .i64 (pairsE S), .bool true, .int .i64 ((i : Nat) : Int), .int .i64 ((m : Nat) : Int)] h') xa[i].2.1.length
        fun m hm ih2 ys h' hsh o => by
        refine hI2 _ _ _ _ _ _ _ _ _ _ ?_
        unfold round7_9
        rw [boolW_bool, intK_int, intK_int, boolW_bool, intK_int, intK_int]
        obtain ⟨y, hy, hy1, hy2, hy3⟩ := shp_at hsh hxi
        obtain ⟨q1, q2⟩ := prR_in (K0 := bufK 2 v3 (ruRow (xa.map Prod.fst))) (R := bufK 2 v4 (ruRow (xb.map Prod.fst)) :: prR xb) hy
        refine (o.rowK (i := 0) rfl).at_ (by omega) (by rw [ruRow_len, List.length_map]; omega) fun ad u hu _ hj => ?_
        rw [Int.toNat_natCast, hrw] at hu
        obtain rfl := Option.some.inj hu
        refine ⟨xa[i].1.1, hj 0 _ rfl, ?_⟩
        have hyv : y.1.1 = xa[i].1.1 := by rw [hy1]
        rw [← hyv, (o.row q1).len, Z_len, hy2, cond_dec]
        refine ⟨fun hlt2 => ?_, fun hge2 => ?_⟩
        · refine (o.rowK (i := 0) rfl).at_ (by omega) (by rw [ruRow_len, List.length_map]; omega) fun ad u hu _ hj => ?_
          rw [Int.toNat_natCast, hrw] at hu
          obtain rfl := Option.some.inj hu
          refine ⟨xa[i].1.1, hj 0 _ rfl, ?_⟩
          rw [← hyv]
          refine o.put (i := 2 * i + 1) (j := m) q1 (by rw [Z_len]; omega) rfl rfl fun h5 o5 => ?_
          rw [i64_id (by omega) (by omega)]
          rw [Z_put, (prR_put _ hy).1] at o5
          refine ih2 (by omega) _ h5 ?_ o5
          exact (shp_set (z := (y.1, (y.2.1.set m 99, y.2.2))) hy rfl (by simp) rfl).trans hsh
        · dsimp only
          rw [xs_e]
          show cond true _ _
          rw [cond_true, nth0, nth1, nth2, nth3, nth4, nth5, nth6, nth7, boolW_bool, intK_int, intK_int, boolW_bool, intK_int]
          intro I3 hI3
          have key3 := down_ind (P := fun m => ∀ (ys : List ((Value × Value) × Ru)) (h' : H), shp ys = shp xa → Hp h2 h' (bufK 2 v3 (ruRow (xa.map Prod.fst)) :: (prR ys ++ (bufK 2 v4 (ruRow (xb.map Prod.fst)) :: prR xb))) →
              I3 [Pt p1, .bool true, v3, .int .i64 (pairsE S), v4, .int .i64 (pairsE S), .bool true, .int .i64 ((i : Nat) : Int), .int .i64 ((m : Nat) : Int)] h') xa[i].2.2.length
            fun m hm ih3 ys h' hsh o => by
            refine hI3 _ _ _ _ _ _ _ _ _ _ ?_
            unfold round7_13
            rw [boolW_bool, intK_int, intK_int, boolW_bool, intK_int, intK_int]
            obtain ⟨y, hy, hy1, hy2, hy3⟩ := shp_at hsh hxi
            obtain ⟨q1, q2⟩ := prR_in (K0 := bufK 2 v3 (ruRow (xa.map Prod.fst))) (R := bufK 2 v4 (ruRow (xb.map Prod.fst)) :: prR xb) hy
            refine (o.rowK (i := 0) rfl).at_ (by omega) (by rw [ruRow_len, List.length_map]; omega) fun ad u hu _ hj => ?_
            rw [Int.toNat_natCast, hrw] at hu
            obtain rfl := Option.some.inj hu
            refine ⟨xa[i].1.2, hj 1 _ rfl, ?_⟩
            have hyv : y.1.2 = xa[i].1.2 := by rw [hy1]
            rw [← hyv, (o.row q2).len, Z_len, hy3, cond_dec]
            refine ⟨fun hlt2 => ?_, fun hge2 => ?_⟩
            · refine (o.rowK (i := 0) rfl).at_ (by omega) (by rw [ruRow_len, List.length_map]; omega) fun ad u hu _ hj => ?_
              rw [Int.toNat_natCast, hrw] at hu
              obtain rfl := Option.some.inj hu
              refine ⟨xa[i].1.2, hj 1 _ rfl, ?_⟩
              rw [← hyv]
              refine o.put (i := 2 * i + 2) (j := m) q2 (by rw [Z_len]; omega) rfl rfl fun h5 o5 => ?_
              rw [i64_id (by omega) (by omega)]
              rw [Z_put, (prR_put _ hy).2] at o5
              refine ih3 (by omega) _ h5 ?_ o5
              exact (shp_set (z := (y.1, (y.2.1, y.2.2.set m 98))) hy rfl rfl (by simp)).trans hsh
            · dsimp only
              rw [xs_e]
              show cond true _ _
              rw [cond_true, nth0, nth1, nth2, nth3, nth4, nth5, nth6, nth7, boolW_bool, intK_int, intK_int, boolW_bool, intK_int, i64_id (by omega) (by omega)]
              exact ih hi1 ys h' hsh o
          exact key3 0 (by omega) ys h' hsh o
      exact key2 0 (by omega) ys h' hsh o
    · dsimp only
      rw [xs_e]
      show cond true _ _
      rw [cond_true, nth0, nth1, nth2, nth3, nth4, nth5, boolW_bool, intK_int, intK_int, boolW_bool, ptrW_ptr]
      refine ⟨sa, ra, rd2 (o.ext _ _ b2), ?_⟩
      refine s22 _ S _ _ _ (hS2.ext o.ext) (hT _ _ (e12.trans o.ext) ht) fun v5 xc h5 o5 hxc => ⟨_, _, rfl, ?_⟩
      have rC := of_rr (S := S) (L := []) (by rw [List.append_nil]; exact o5) hxc
      have rB2 : Rr h5 v4 (pairsL S) := by
        have ob : Hp h2 h' (bufK 2 v4 (ruRow (xb.map Prod.fst)) :: (prR xb ++ [])) := by
          rw [List.append_nil]
          refine o.sub ?_
          exact ((List.sublist_append_right (prR ys) _).cons _)
        exact (of_rr ob hxb).ext o5.ext
      refine spec24 c24 s25 rC rB2 ⟨_, rfl, ?_⟩
      rw [decide_eq_true rfl, cond_true, cond_true, cond_true]
      have := hk h5 ((e12.trans o.ext).trans o5.ext)
      simpa using this
  exact key 0 (by omega) xa h4 rfl o
end Go.Proofs.YtnlhnlmnlfmojaaDoor.Am
