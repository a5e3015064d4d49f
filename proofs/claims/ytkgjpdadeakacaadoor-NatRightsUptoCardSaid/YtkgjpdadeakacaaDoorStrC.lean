/-
  The library's trimming, of a set of plain signs.
-/
import Derived.Test.YtkgjpdadeakacaaDoorStrB
namespace Go.Proofs.YtkgjpdadeakacaaDoor.Am
open Go Go.Proofs
set_option linter.unusedVariables false
set_option linter.unusedSimpArgs false

def tab (q : Nat → Bool) : List Value := (List.range 256).map fun i => .bool (q i)
theorem tab_len (q : Nat → Bool) : (tab q).length = 256 := by simp [tab]
theorem tab_get (q : Nat → Bool) {i : Nat} (hi : i < 256) : (tab q)[i]? = some (.bool (q i)) := by simp [tab, hi]
theorem tab_one (q : Nat → Bool) : (tab q).all one = true := by simp [tab, one]
theorem tab_set (q : Nat → Bool) {x : Nat} : (tab q).set x (.bool true) = tab fun i => q i || i == x := by
  apply List.ext_getElem?
  intro i
  rw [List.getElem?_set]
  by_cases hi : i < 256
  · rw [tab_get _ hi, tab_get _ hi, tab_len]
    by_cases h : x = i
    · subst h; simp [hi]
    · rw [if_neg h]
      have : (i == x) = false := by simpa using Ne.symm h
      rw [this, Bool.or_false]
  · rw [List.getElem?_eq_none (by rw [tab_len]; omega), List.getElem?_eq_none (by rw [tab_len]; omega), tab_len]
    by_cases h : x = i
    · rw [if_pos h, if_neg (by omega)]
    · rw [if_neg h]
theorem tab_congr {q r : Nat → Bool} (h : ∀ i, i < 256 → q i = r i) : tab q = tab r := by
  apply List.ext_getElem?
  intro i
  by_cases hi : i < 256
  · rw [tab_get _ hi, tab_get _ hi, h i hi]
  · rw [List.getElem?_eq_none (by rw [tab_len]; omega), List.getElem?_eq_none (by rw [tab_len]; omega)]
theorem rdN_all {h : H} {b n : Nat} {l : List Value} (hb : h b = some (.cells l)) (hn : l.length = n) : rdN h ⟨b, 0, none⟩ n = some l := by
  subst hn
  simp [rdN, hb, rowOf]
theorem wr_all {h : H} {b : Nat} {l ws : List Value} (hb : h b = some (.cells l)) (hn : l.length = ws.length) : wr h ⟨b, 0, none⟩ ws = some (h.set b (.cells ws)) := by
  simp only [wr, hb]
  rw [if_pos (by simp; omega)]
  simp only [splice, List.take_zero, List.nil_append, Nat.zero_add]
  rw [List.drop_eq_nil_of_le (by omega), List.append_nil]

def SpecHas (D : Orc) (f : Nat) : Prop := ∀ b q (x : UInt8) h (k : Kv) kp, h b = some (.cells (tab q)) → k (.bool (q x.toNat)) h → D f [.pointer (some ⟨b, 0, none⟩), .int .u8 (x.toNat : Int)] h k kp
theorem spec47 {D : Orc} (c : Cl47 D) : SpecHas D 47 := by
  intro b q x h k kp hb hk
  refine c _ _ _ _ _ ?_
  unfold F47
  have hx : x.toNat < 256 := x.toNat_lt
  simp only [intK_int]
  refine ⟨rfl, by omega, by omega, q x.toNat, ?_, hk⟩
  rw [add_at]
  simp only [rd, hb, rowOf, Option.bind_some, Nat.mul_one, Int.toNat_natCast, Nat.zero_add]
  exact tab_get q hx

def SpecSet (D : Orc) (f : Nat) : Prop := ∀ (cut : ByteArray) h (k : Kv) kp, (∀ b ∈ bts cut, b.toNat < 128) → cut.size < 2 ^ 40 →
  (∀ h', Ext h h' → k (.tuple #[.agg (tab fun i => (bts cut).any (·.toNat == i)).toArray, .bool true]) h') → D f [.string cut] h k kp
set_option maxRecDepth 100000 in
theorem spec41 {D : Orc} (c : Cl41 D) : SpecSet D 41 := by
  intro cut h k kp ha hs hk
  refine c _ _ _ _ ?_
  unfold F41
  rw [strW_string]
  intro b hb
  have e0 : h.set b (.cells (tab fun i => ((bts cut).take 0).any (·.toNat == i))) = h.set b (.cells (tab fun _ => false)) := rfl
  intro I hI
  have key : ∀ d j : Nat, j + d = cut.size → I [.string cut, .pointer (some ⟨b, 0, none⟩), .int .i64 (j : Int)] (h.set b (.cells (tab fun i => ((bts cut).take j).any (·.toNat == i)))) := by
    intro d
    induction d with
    | zero =>
      intro j hj
      refine hI _ _ _ _ ?_
      unfold round41_2
      simp only [strW_string, intK_int]
      rw [cond_dec]
      refine ⟨fun x => absurd x (by omega), fun _ => ?_⟩
      simp only [xs_e, nth0, Nat.beq_refl, cond_true, ptrW_ptr]
      refine ⟨_, rdN_all set_here (tab_len _), tab_len _, tab_one _, _, wr_all set_here rfl, _, rdN_all set_here (tab_len _), ?_⟩
      have e1 : (tab fun i => ((bts cut).take j).any (·.toNat == i)) = tab fun i => (bts cut).any (·.toNat == i) := by
        rw [List.take_of_length_le (by rw [bts_len]; omega)]
      rw [e1]
      exact hk _ ((Ext.new hb).trans (by rw [set_twice]; exact Ext.refl _))
    | succ d ih =>
      intro j hj
      refine hI _ _ _ _ ?_
      unfold round41_2
      simp only [strW_string, intK_int]
      rw [cond_dec]
      refine ⟨fun _ => ?_, fun x => absurd (show (j : Int) < (cut.size : Int) by omega) x⟩
      refine strAt_rule (by omega) (by omega) fun x hx => ?_
      rw [Int.toNat_natCast] at hx
      have hx128 := ha x (List.mem_of_getElem? hx)
      rw [cond_dec]
      refine ⟨fun h1 => absurd h1 (by omega), fun _ => ?_⟩
      simp only [ptrW_ptr]
      refine ⟨by omega, by omega, by trivial, by trivial, ?_, ?_, ?_⟩
      · exact h.set b (.cells (tab fun i => ((bts cut).take (j + 1)).any (·.toNat == i)))
      · rw [add_at]
        simp only [wr1, set_here, Int.toNat_natCast, Nat.mul_one, Nat.zero_add]
        rw [if_pos (by rw [tab_len]; omega), tab_set, set_twice]
        congr 3
        apply tab_congr
        intro i hi
        rw [List.take_add_one, hx, List.any_append]
        simp [Bool.beq_eq_decide_eq, eq_comm]
      · rw [i64_id (by omega) (by omega), show (j : Int) + 1 = ((j + 1 : Nat) : Int) by omega]
        exact ih (j + 1) (by omega)
  have := key cut.size 0 (by omega)
  exact this

def rtrim (q : UInt8 → Bool) (l : List UInt8) : List UInt8 := (l.reverse.dropWhile q).reverse
def SpecTrimLA (D : Orc) (f : Nat) : Prop := ∀ (s : ByteArray) b q h (k : Kv) kp, s.size < 2 ^ 62 → h b = some (.cells (tab q)) → (∀ t, bts t = (bts s).dropWhile (fun x => q x.toNat) → k (.string t) h) → D f [.string s, .pointer (some ⟨b, 0, none⟩)] h k kp
def SpecTrimRA (D : Orc) (f : Nat) : Prop := ∀ (s : ByteArray) b q h (k : Kv) kp, s.size < 2 ^ 62 → h b = some (.cells (tab q)) → (∀ t, t.size ≤ s.size → bts t = rtrim (fun x => q x.toNat) (bts s) → k (.string t) h) → D f [.string s, .pointer (some ⟨b, 0, none⟩)] h k kp
theorem spec42 {D : Orc} (c : Cl42 D) (g : SpecHas D 47) : SpecTrimLA D 42 := by
  intro s b q h k kp hs hb hk
  refine c _ _ _ _ _ ?_
  unfold F42
  simp only [strW_string]
  intro I hI
  have key : ∀ n : Nat, ∀ t : ByteArray, t.size = n → t.size < 2 ^ 62 → (bts t).dropWhile (fun x => q x.toNat) = (bts s).dropWhile (fun x => q x.toNat) → I [.string t, .pointer (some ⟨b, 0, none⟩)] h := by
    intro n
    induction n using Nat.strongRecOn with
    | _ n ih =>
      intro t ht hts he
      refine hI _ _ _ ?_
      unfold round42_1
      simp only [strW_string]
      rw [cond_dec]
      refine ⟨fun h1 => ?_, fun h1 => ?_⟩
      · refine strAt_rule (by omega) (by omega) fun x hx => ?_
        refine g _ _ _ _ _ _ hb ⟨_, rfl, ?_⟩
        have hcons : bts t = x :: (bts t).drop 1 := by
          cases hbt : bts t with
          | nil => rw [hbt] at hx; simp at hx
          | cons y l => rw [hbt] at hx; simp at hx; subst hx; rfl
        rw [cond_not, cond_split]
        refine ⟨fun h2 => ?_, fun h2 => ?_⟩
        · refine strTail_rule (by omega) (by omega) fun u hu => ?_
          have hus : u.size = t.size - 1 := by
            rw [← bts_len, hu, List.length_drop, bts_len]; rfl
          refine ih u.size (by omega) u rfl (by omega) ?_
          rw [hu, ← he, hcons, List.dropWhile_cons, if_pos h2]
          rfl
        · simp only [xs_e, nth0, Nat.beq_refl, cond_true, strW_string]
          refine hk t ?_
          rw [← he, hcons, List.dropWhile_cons, if_neg (by rw [h2]; decide)]
      · simp only [xs_e, nth0, Nat.beq_refl, cond_true, strW_string]
        refine hk t ?_
        have : bts t = [] := List.length_eq_zero_iff.mp (by rw [bts_len]; omega)
        rw [← he, this]; rfl
  exact key s.size s rfl hs rfl
theorem spec45 {D : Orc} (c : Cl45 D) (g : SpecHas D 47) : SpecTrimRA D 45 := by
  intro s b q h k kp hs hb hk
  refine c _ _ _ _ _ ?_
  unfold F45
  simp only [strW_string]
  intro I hI
  have key : ∀ n : Nat, ∀ t : ByteArray, t.size = n → t.size ≤ s.size → rtrim (fun x => q x.toNat) (bts t) = rtrim (fun x => q x.toNat) (bts s) → I [.string t, .pointer (some ⟨b, 0, none⟩)] h := by
    intro n
    induction n using Nat.strongRecOn with
    | _ n ih =>
      intro t ht hts he
      refine hI _ _ _ ?_
      unfold round45_1
      simp only [strW_string]
      rw [cond_dec]
      refine ⟨fun h1 => ?_, fun h1 => ?_⟩
      · rw [i64_id (by omega) (by omega)]
        refine strAt_rule (by omega) (by omega) fun x hx => ?_
        refine g _ _ _ _ _ _ hb ⟨_, rfl, ?_⟩
        rw [show ((t.size : Int) - 1).toNat = t.size - 1 by omega] at hx
        have hcons : bts t = (bts t).take (t.size - 1) ++ [x] := by
          have hl : (bts t).length = t.size - 1 + 1 := by rw [bts_len]; omega
          have := List.take_add_one (l := bts t) (i := t.size - 1)
          rw [hx, List.take_of_length_le (by omega)] at this
          simpa using this
        have hrev : (bts t).reverse = x :: ((bts t).take (t.size - 1)).reverse := by
          conv => lhs; rw [hcons]
          simp
        rw [cond_not, cond_split]
        refine ⟨fun h2 => ?_, fun h2 => ?_⟩
        · refine strHead_rule (by omega) (by omega) fun u hu => ?_
          rw [show ((t.size : Int) - 1).toNat = t.size - 1 by omega] at hu
          have hus : u.size = t.size - 1 := by
            rw [← bts_len, hu, List.length_take, bts_len]; omega
          refine ih u.size (by omega) u rfl (by omega) ?_
          rw [hu, ← he]
          unfold rtrim
          rw [hrev, List.dropWhile_cons, if_pos h2]
        · simp only [xs_e, nth0, Nat.beq_refl, cond_true, strW_string]
          refine hk t hts ?_
          rw [← he]
          unfold rtrim
          rw [hrev, List.dropWhile_cons, if_neg (by rw [h2]; decide), ← hrev, List.reverse_reverse]
      · simp only [xs_e, nth0, Nat.beq_refl, cond_true, strW_string]
        refine hk t hts ?_
        have : bts t = [] := List.length_eq_zero_iff.mp (by rw [bts_len]; omega)
        rw [← he, this]; rfl
  exact key s.size s rfl (Nat.le_refl _) rfl
end Go.Proofs.YtkgjpdadeakacaaDoor.Am
