/-
  Packed: Reading a natural: one digit more. Reading a natural. Reading a natural: the program's function. Reading a natural: the document's function. Writing a natural: dividing by a small number, digits. Writing a natural: the document's function. Writing a natural: the program's dividing. Writing a natural: nine digits more. Writing a natural: nine digits more, laid behind the others. Writing a natural: the program's function. Writing a natural: the program's function, whole. The document's examples. The document's examples hold. The laws: which limbs are a natural. The laws on sums, texts and readings: what the law's function answers. What is written is read again, and what is read is written again: plain law and the law's function. A digit behind a number: the law's function. Sums and products of three, and what comparing keeps: the law's function.
-/
import Derived.Test.YtkgjpdadeakacaaDoorPkC
namespace Go.Proofs.YtkgjpdadeakacaaDoor.Am
open Go Go.Proofs Nats
set_option linter.unusedVariables false
set_option linter.unusedSimpArgs false

theorem last_ne {o : List Nat} {n : Nat} (ok : Ok o) (ho : o.length = n + 1) (hv : B ^ n ≤ val o) : o.getLast? ≠ some 0 := by
  intro h0
  rw [List.getLast?_eq_getElem?, ho] at h0
  have h1 : val o = val (o.take n) + B ^ n * dig o n := by rw [← val_take_succ, val_full (by omega)]
  have h2 : dig o n = 0 := by rw [dig_of (x := 0) (by simpa using h0)]
  rw [h2, Nat.mul_zero, Nat.add_zero] at h1
  have := val_take_lt ok n
  omega
theorem limbs_low {v n : Nat} (h : (limbs v).length = n + 1) : B ^ n ≤ v := by
  have h1 := limbs_last v
  have hv := val_limbs v
  have e : val (limbs v) = val ((limbs v).take n) + B ^ n * dig (limbs v) n := by rw [← val_take_succ, val_full (by omega)]
  have hx : (limbs v)[n]? = some ((limbs v)[n]'(by omega)) := List.getElem?_eq_getElem (by omega)
  have hd : dig (limbs v) n ≠ 0 := by
    rw [dig_of hx]
    intro h0
    rw [h0] at hx
    rcases h1 with h1 | h1
    · rw [h1] at h; simp at h
    · exact h1 (by rw [List.getLast?_eq_getElem?, h]; simpa using hx)
  have : B ^ n * 1 ≤ B ^ n * dig (limbs v) n := Nat.mul_le_mul_left _ (by omega)
  omega
/-- The digits behind a step: ten times as much and a digit. -/
theorem ten_limbs {v d c : Nat} {o : List Nat} (ok : Ok o) (ho : o.length = (limbs v).length) (hc : c < B) (h : val o + B ^ (limbs v).length * c = d + 10 * v) : (if 0 < c then o ++ [c] else o) = limbs (10 * v + d) := by
  have hv : val (if 0 < c then o ++ [c] else o) = 10 * v + d := by
    by_cases h0 : 0 < c
    · rw [if_pos h0, val_append, ho]; simp only [val, Nat.mul_zero, Nat.add_zero]; omega
    · rw [if_neg h0]
      have : c = 0 := by omega
      subst this; omega
  rw [← hv]
  refine limbs_unique ?_ ?_
  · by_cases h0 : 0 < c
    · rw [if_pos h0]
      intro x hx
      rcases List.mem_append.mp hx with hx | hx
      · exact ok x hx
      · simp only [List.mem_singleton] at hx; omega
    · rw [if_neg h0]; exact ok
  · by_cases h0 : 0 < c
    · rw [if_pos h0]
      refine .inr ?_
      rw [List.getLast?_append]
      simp; omega
    · rw [if_neg h0]
      cases hn : (limbs v).length with
      | zero => exact .inl (List.length_eq_zero_iff.mp (by omega))
      | succ n =>
        refine .inr (last_ne (n := n) ok (by omega) ?_)
        have := limbs_low hn
        have hc0 : c = 0 := by omega
        subst hc0
        omega
theorem limbs_mono {v w : Nat} (h : v ≤ w) : (limbs v).length ≤ (limbs w).length := by
  cases hn : (limbs v).length with
  | zero => omega
  | succ n =>
    have h1 := limbs_low hn
    have h2 := val_lt (ok_limbs w)
    rw [val_limbs] at h2
    have h3 : B ^ n < B ^ (limbs w).length := by omega
    have := (Nat.pow_lt_pow_iff_right (by decide)).mp h3
    omega

/-- The inner loop of reading: ten times as much, and what is carried. -/
theorem ten_step {x c t : Nat} (hc : c < 10) (hx : x < B) (ht : t = c + 10 * x) : t / B < 10 := by
  subst ht
  have hx : x < 4294967296 := hx
  show (c + 10 * x) / 4294967296 < 10
  omega
theorem parse_inner {D : Orc} {h0 : H} {t : ByteArray} {a : Value} {l : List Nat} {i d : Nat} (hl : l.length ≤ 64) (hd : d < 10) {K : Kl}
    (hK : ∀ h2 o c, Nb h0 h2 a o → o.length = l.length → c < 10 → val o + B ^ l.length * c = d + 10 * val l → K (.e 2) [.string t, a, .int .i64 (i : Int), .int .u64 (c : Int)] h2)
    {h1 : H} (nb : Nb h0 h1 a l) :
    loop27_9 D [.string t, a, .int .i64 (i : Int), .int .u64 (d : Int), a, .int .i64 (l.length : Int), .int .i64 (0 : Int)] h1 K := by
  intro I hI
  have hB : B = 4294967296 := rfl
  have key : ∀ e k : Nat, ∀ (o : List Nat) (c : Nat) (h2 : H), k + e = l.length → o.length = l.length → Nb h0 h2 a o → c < 10 → (∀ j, k ≤ j → o[j]? = l[j]?) →
      val (o.take k) + B ^ k * c = d + 10 * val (l.take k) → I [.string t, a, .int .i64 (i : Int), .int .u64 (c : Int), a, .int .i64 (l.length : Int), .int .i64 (k : Int)] h2 := by
    intro e
    induction e with
    | zero =>
      intro k o c h2 hk ho nb hc hj hv
      refine hI _ _ _ _ _ _ _ _ ?_
      unfold round27_9
      simp only [intK_int, strW_string]
      rw [cond_dec]
      refine ⟨fun x => absurd x (by omega), fun _ => ?_⟩
      have hk' : k = l.length := by omega
      subst hk'
      rw [val_full (l := o) (by omega), val_full (l := l) (by omega)] at hv
      exact hK _ _ _ nb ho hc hv
    | succ e ih =>
      intro k o c h2 hk ho nb hc hj hv
      refine hI _ _ _ _ _ _ _ _ ?_
      unfold round27_9
      simp only [intK_int, strW_string]
      rw [cond_dec]
      refine ⟨fun _ => ?_, fun x => absurd (show (k : Int) < (l.length : Int) by omega) x⟩
      refine nb.nr.at_ (by omega) (by omega) fun p x hx hxB ha => ⟨_, ha, ?_⟩
      rw [Int.toNat_natCast] at hx
      have e2 : IntKind.wrap .u64 ((c : Int) + IntKind.wrap .u64 ((10 : Int) * IntKind.wrap .u64 (x : Int))) = ((c + 10 * x : Nat) : Int) := by
        rw [u64_id (n := (x : Int)) (by omega) (by omega), u64_id (n := (10 : Int) * (x : Int)) (by omega) (by omega), u64_id (by omega) (by omega)]
        omega
      rw [e2]
      refine nb.put (by trivial) (by trivial) (x := (c + 10 * x) % B) k rfl (by omega) (by rw [u32_mod]; rfl) (Nat.mod_lt _ (by decide)) (fun h3 nb3 => ?_)
      refine ⟨by decide, ?_⟩
      rw [shr32, i64_id (by omega) (by omega)]
      have := ih (k + 1) (o.set k ((c + 10 * x) % B)) ((c + 10 * x) / B) h3 (by omega) (by simpa using ho) nb3 (ten_step hc hxB rfl) (fun j hjk => by
          rw [List.getElem?_set, if_neg (by omega)]; exact hj j (by omega)) (by
          have hlx : l[k]? = some x := by rw [← hj k (Nat.le_refl _)]; exact hx
          rw [val_set_take (by omega), val_take_succ, dig_of hlx, Nat.pow_succ, carry_step hv rfl, Nat.mul_add, Nat.mul_left_comm 10]
          omega)
      simpa [hB] using this
  exact key l.length 0 l d h1 (by omega) rfl nb hd (fun _ _ => rfl) (by simp [val])
end Go.Proofs.YtkgjpdadeakacaaDoor.Am

namespace Go.Proofs.YtkgjpdadeakacaaDoor.Am
open Go Go.Proofs Nats
set_option linter.unusedVariables false
set_option linter.unusedSimpArgs false

def isDig (b : UInt8) : Bool := decide (48 ≤ b.toNat) && decide (b.toNat ≤ 57)
def dec (l : List UInt8) : Nat := l.foldl (fun v b => 10 * v + (b.toNat - 48)) 0
def textOk (l : List UInt8) : Bool := match l with
  | [] => false
  | x :: r => (!(x == 48) || r.isEmpty) && (x :: r).all isDig
def readNat (l : List UInt8) : List Nat × Int := if textOk l then (if (limbs (dec l)).length ≤ 64 then (limbs (dec l), 0) else ([], 2)) else ([], 11)
theorem dec_snoc (l : List UInt8) (b : UInt8) : dec (l ++ [b]) = 10 * dec l + (b.toNat - 48) := by simp [dec]
theorem dec_take_succ {l : List UInt8} {i : Nat} {b : UInt8} (h : l[i]? = some b) : dec (l.take (i + 1)) = 10 * dec (l.take i) + (b.toNat - 48) := by
  rw [List.take_add_one, h]; exact dec_snoc _ _
theorem dec_take_le (l : List UInt8) : ∀ d i, i + d = l.length → dec (l.take i) ≤ dec l
  | 0, i, h => by rw [List.take_of_length_le (by omega)]; omega
  | d + 1, i, h => by
    have h1 := dec_take_le l d (i + 1) (by omega)
    rw [dec_take_succ (List.getElem?_eq_getElem (show i < l.length by omega))] at h1
    omega

def SpecParse (D : Orc) (f : Nat) : Prop := ∀ (s : ByteArray) h (k : Kv) kp, s.size < 2 ^ 62 →
  (∀ a h', Nb h h' a (readNat (bts s)).1 → k (.tuple #[a, .int .i64 (readNat (bts s)).2]) h') → D f [.string s] h k kp
theorem digits_cut : bts (ByteArray.mk #[48, 49, 50, 51, 52, 53, 54, 55, 56, 57]) = [48, 49, 50, 51, 52, 53, 54, 55, 56, 57] := rfl
theorem inSet_digits : inSet (ByteArray.mk #[48, 49, 50, 51, 52, 53, 54, 55, 56, 57]) = isDig := by
  funext x
  unfold inSet isDig
  rw [digits_cut, Bool.eq_iff_iff]
  simp only [List.any_cons, List.any_nil, Bool.or_false, Bool.or_eq_true, beq_iff_eq, Bool.and_eq_true, decide_eq_true_eq]
  have e : ∀ n : Nat, n < 256 → (UInt8.ofNat n).toNat = n := fun n hn => by simp [Nat.mod_eq_of_lt hn]
  have h48 : (48 : UInt8).toNat = 48 := rfl
  have h49 : (49 : UInt8).toNat = 49 := rfl
  have h50 : (50 : UInt8).toNat = 50 := rfl
  have h51 : (51 : UInt8).toNat = 51 := rfl
  have h52 : (52 : UInt8).toNat = 52 := rfl
  have h53 : (53 : UInt8).toNat = 53 := rfl
  have h54 : (54 : UInt8).toNat = 54 := rfl
  have h55 : (55 : UInt8).toNat = 55 := rfl
  have h56 : (56 : UInt8).toNat = 56 := rfl
  have h57 : (57 : UInt8).toNat = 57 := rfl
  rw [h48, h49, h50, h51, h52, h53, h54, h55, h56, h57]
  omega
theorem dig_val {b : UInt8} (h : isDig b = true) : IntKind.wrap .u64 (IntKind.wrap .u8 ((b.toNat : Int) - (48 : Int))) = ((b.toNat - 48 : Nat) : Int) ∧ b.toNat - 48 < 10 := by
  simp only [isDig, Bool.and_eq_true, decide_eq_true_eq] at h
  refine ⟨?_, by omega⟩
  rw [IntWalk.u8_in _ (by omega), u64_id (by omega) (by omega)]
  omega

/-- A digit is taken up: the row one longer, or not. -/
theorem Nb.push {h0 h : H} {a : Value} {o : List Nat} (r : Nb h0 h a o) (hs : o.length ≤ 64) {c : Nat} (hc : c < B) {v : Value} (hv : v = .int .u32 (c : Int)) {T O : Prop} (hT : T) (hO : O) {K : Value → H → Prop} (hK : ∀ s h', Nb h0 h' s (o ++ [c]) → K s h') :
    O ∧ T ∧ newSl h 1 [v] (fun s31 h32 => slenW s31 (fun n33 => srcW h32 1 s31 (n33) (fun w34 => apW h32 1 4 [(Value.int IntKind.u32 (0 : Int))] a (n33) w34 (fun s35 h36 => K s35 h36)))) := by
  subst hv
  refine ⟨hO, hT, ?_⟩
  intro b hb
  have hrow : Row (h.set b (.cells (U [c]))) (.slice (some ⟨b, 0, none⟩) 1 1) (U [c]) := Row.cells set_here rfl
  rw [slenW_slice]
  refine hrow.src (n := 1) (Nat.le_refl 1) ?_
  have e0 : (U [c]).take 1 = U [c] := rfl
  rw [e0]
  have r2 : Nb h0 (h.set b (.cells (U [c]))) a o := ⟨r.ext.trans (Ext.new hb), r.buf.ext (Ext.new hb), r.ok, r.small⟩
  refine r2.buf.app (ws := U [c]) r2.ext rfl rfl (by rw [U_len]; simp [U]; omega) (by rw [U_len]; simp [U]; omega) fun s' h2 hb2 he2 => hK _ _ ⟨he2, ?_, ?_, by simp; omega⟩
  · rw [U_app] at hb2; exact hb2
  · intro x hx
    rcases List.mem_append.mp hx with hx | hx
    · exact r.ok x hx
    · simp only [List.mem_singleton] at hx; omega

theorem parse_loop {D : Orc} {h0 : H} {s : ByteArray} (hs : s.size < 2 ^ 62) (hd : (bts s).all isDig = true) {K : Kl}
    (hK : ∀ h2 a, Nb h0 h2 a (limbs (dec (bts s))) → (limbs (dec (bts s))).length ≤ 64 → K (.e 0) [a] h2)
    (hR : ∀ h2, Ext h0 h2 → 64 < (limbs (dec (bts s))).length → K .r [.slice none 0 0, .int .i64 2] h2) {h1 : H} (he : Ext h0 h1) :
    loop27_5 D [.string s, .slice none 0 0, .int .i64 (0 : Int)] h1 K := by
  intro I hI
  have hB : B = 4294967296 := rfl
  have key : ∀ d i : Nat, ∀ (a : Value) (h2 : H), i + d = s.size → Nb h0 h2 a (limbs (dec ((bts s).take i))) → (limbs (dec ((bts s).take i))).length ≤ 64 → I [.string s, a, .int .i64 (i : Int)] h2 := by
    intro d
    induction d with
    | zero =>
      intro i a h2 hi nb h64
      refine hI _ _ _ _ ?_
      unfold round27_5
      simp only [strW_string, intK_int]
      rw [cond_dec]
      refine ⟨fun x => absurd x (by omega), fun _ => ?_⟩
      rw [List.take_of_length_le (by rw [bts_len]; omega)] at nb h64
      exact hK _ _ nb h64
    | succ d ih =>
      intro i a h2 hi nb h64
      refine hI _ _ _ _ ?_
      unfold round27_5
      simp only [strW_string, intK_int]
      rw [cond_dec]
      refine ⟨fun _ => ?_, fun x => absurd (show (i : Int) < (s.size : Int) by omega) x⟩
      refine strAt_rule (by omega) (by omega) fun x hx => ?_
      rw [Int.toNat_natCast] at hx
      have hxd : isDig x = true := List.all_eq_true.mp hd x (List.mem_of_getElem? hx)
      obtain ⟨hx1, hx2⟩ := dig_val hxd
      rw [nb.len, hx1]
      refine parse_inner h64 hx2 (fun h3 o c nb3 ho hc hv => ?_) nb
      simp only [xs_e, nth0, nth1, nth2, nth3, strW_string, intK_int, Nat.beq_refl, cond_true]
      have hstep := ten_limbs (c := c) (d := x.toNat - 48) (v := dec ((bts s).take i)) nb3.ok ho (by omega) (by rw [val_limbs] at hv; exact hv)
      rw [← dec_take_succ hx] at hstep
      have last : ∀ a' h', Nb h0 h' a' (limbs (dec ((bts s).take (i + 1)))) → j27_5_17 D I K (.string s) a' (.int .i64 (i : Int)) h' := by
        intro a' h' nb'
        unfold j27_5_17
        simp only [strW_string, intK_int]
        rw [nb'.len, cond_dec]
        refine ⟨fun h5 => hR _ nb'.ext ?_, fun h5 => ?_⟩
        · have := limbs_mono (dec_take_le (bts s) (s.size - (i + 1)) (i + 1) (by rw [bts_len]; omega))
          omega
        · rw [i64_id (by omega) (by omega), show (i : Int) + 1 = ((i + 1 : Nat) : Int) by omega]
          exact ih (i + 1) a' h' (by omega) nb' (by omega)
      rw [cond_dec]
      refine ⟨fun h5 => ?_, fun h5 => ?_⟩
      · rw [if_pos (by omega)] at hstep
        rw [← hstep] at last
        exact nb3.push (by omega) (c := c) (by omega) (by rw [u32_id (by omega) (by omega)]) (by trivial) (by trivial) (fun a' h' nb' => last a' h' nb')
      · rw [if_neg (by omega)] at hstep
        rw [← hstep] at last
        exact last _ _ nb3
  have h0l : limbs (dec ((bts s).take 0)) = [] := by
    have : dec ((bts s).take 0) = 0 := rfl
    rw [this, limbs_zero]
  exact key s.size 0 _ h1 (by omega) (by rw [h0l]; exact Nb.nil_ he) (by rw [h0l]; decide)
end Go.Proofs.YtkgjpdadeakacaaDoor.Am

namespace Go.Proofs.YtkgjpdadeakacaaDoor.Am
open Go Go.Proofs Nats
set_option linter.unusedVariables false
set_option linter.unusedSimpArgs false

theorem trim_digits {s t : ByteArray} (h : bts t = (rtrim isDig (bts s)).dropWhile isDig) : (t.toList == (ByteArray.mk #[]).toList) = (bts s).all isDig := by
  rw [toList_eq, toList_eq, Bool.eq_iff_iff]
  have e : bts (ByteArray.mk #[]) = [] := rfl
  rw [e, beq_iff_eq, h, trim_nil]
theorem spec27 {D : Orc} (c : Cl27 D) (t37 : SpecTrimBoth D 37) : SpecParse D 27 := by
  intro s h k kp hs hk
  refine c _ _ _ _ ?_
  unfold F27
  rw [strW_string, cond_not, cond_beq_nil]
  have bad : textOk (bts s) = false → ∀ h', Ext h h' → j27__2 D k kp (.string s) (.bool true) h' := by
    intro h1 h' he
    unfold j27__2
    simp only [strW_string, boolW_bool, cond_true]
    have := hk (.slice none 0 0) h'
    simp only [readNat, h1] at this
    exact this (Nb.nil_ he)
  have good : (bts s ≠ [] → ∀ x r, bts s = x :: r → x = 48 → r = []) → ∀ h', bts s ≠ [] → Ext h h' → j27__2 D k kp (.string s) (.bool (!((bts s).all isDig))) h' := by
    intro hz h' hne he
    cases ha : (bts s).all isDig with
    | false =>
      refine bad ?_ h' he
      unfold textOk
      split
      · rfl
      · rename_i x r hb
        rw [hb] at ha
        rw [ha]; simp
    | true =>
      have hok : textOk (bts s) = true := by
        cases hb : bts s with
        | nil => exact absurd hb hne
        | cons x r =>
          unfold textOk
          rw [hb] at ha
          simp only [ha, Bool.and_true, Bool.or_eq_true, Bool.not_eq_true']
          by_cases hx : x = 48
          · right
            have := hz hne x r hb hx
            rw [this]; rfl
          · left
            simpa using hx
      unfold j27__2
      simp only [strW_string, boolW_bool, Bool.not_true, cond_false]
      simp only [readNat, hok, if_true] at hk
      refine parse_loop (h0 := h) hs ha (fun h2 a nb h64 => ?_) (fun h2 he2 h64 => ?_) he
      · simp only [xs_e, nth0, Nat.beq_refl, cond_true]
        rw [if_pos h64] at hk
        exact hk a h2 nb
      · simp only [xs_r, nth0, nth1, intK_int]
        rw [if_neg (by omega)] at hk
        exact hk _ h2 (Nb.nil_ he2)
  have trim : (bts s ≠ [] → ∀ x r, bts s = x :: r → x = 48 → r = []) → bts s ≠ [] → D 37 [(Value.string s), (Value.string (ByteArray.mk #[48, 49, 50, 51, 52, 53, 54, 55, 56, 57]))] h (fun v2 h3 => ∃ s4 : ByteArray, v2 = (Value.string s4) ∧ j27__2 D k kp (Value.string s) (Value.bool (!(s4.toList == (ByteArray.mk #[]).toList))) h3) kp := by
    intro hz hne
    refine t37 _ _ _ _ _ hs ?_ (by decide) (by decide) fun t h' he ht => ⟨t, rfl, ?_⟩
    · intro b hb
      rw [digits_cut] at hb
      simp only [List.mem_cons, List.not_mem_nil, or_false] at hb
      rcases hb with rfl | rfl | rfl | rfl | rfl | rfl | rfl | rfl | rfl | rfl <;> decide
    · rw [inSet_digits] at ht
      rw [trim_digits ht]
      exact good hz h' hne he
  refine ⟨fun h1 => bad (by rw [h1]; rfl) h (Ext.refl h), fun h1 => ?_⟩
  have hpos : 0 < s.size := by
    rw [← bts_len]
    exact List.length_pos_iff.mpr h1
  refine strAt_rule (by omega) (by omega) fun x hx => ?_
  have hcons : bts s = x :: (bts s).drop 1 := by
    cases hb : bts s with
    | nil => exact absurd hb h1
    | cons y l => rw [hb] at hx; simp at hx; subst hx; rfl
  rw [cond_eq]
  refine ⟨fun h2 => ?_, fun h2 => ?_⟩
  · have hx48 : x = 48 := u8_eq.mp (by rw [h2]; rfl)
    rw [cond_not, cond_not, cond_split]
    have e48 : bts (ByteArray.mk #[48]) = [48] := rfl
    refine ⟨fun h3 => ?_, fun h3 => ?_⟩
    · have h4 : bts s = [48] := by
        rw [toList_eq, toList_eq, e48] at h3
        simpa using h3
      exact trim (fun _ y r hb _ => by rw [h4] at hb; cases hb; rfl) h1
    · refine bad ?_ h (Ext.refl h)
      have h4 : bts s ≠ [48] := by
        rw [toList_eq, toList_eq, e48] at h3
        simpa using h3
      rw [hcons]
      unfold textOk
      subst hx48
      cases hr : (bts s).drop 1 with
      | nil => rw [hr] at hcons; exact absurd hcons h4
      | cons y r => rfl
  · refine trim (fun _ y r hb hy => ?_) h1
    rw [hcons] at hb
    cases hb
    exact absurd (by rw [hy]; rfl) h2
end Go.Proofs.YtkgjpdadeakacaaDoor.Am

namespace Go.Proofs.YtkgjpdadeakacaaDoor.Am
open Go Go.Proofs Nats
set_option linter.unusedVariables false
set_option linter.unusedSimpArgs false

theorem refparse_inner {D : Orc} {h0 : H} {t : ByteArray} {a : Value} {l : List Nat} {i d : Nat} (hl : l.length ≤ 64) (hd : d < 10) {K : Kl}
    (hK : ∀ h2 o c, Nb h0 h2 a o → o.length = l.length → c < 10 → val o + B ^ l.length * c = d + 10 * val l → K (.e 4) [.string t, a, .int .i64 (i : Int), .int .u64 (c : Int)] h2)
    {h1 : H} (nb : Nb h0 h1 a l) :
    loop28_14 D [.string t, a, .int .i64 (i : Int), .int .u64 (d : Int), .int .i64 (0 : Int)] h1 K := by
  intro I hI
  have hB : B = 4294967296 := rfl
  have key : ∀ e k : Nat, ∀ (o : List Nat) (c : Nat) (h2 : H), k + e = l.length → o.length = l.length → Nb h0 h2 a o → c < 10 → (∀ j, k ≤ j → o[j]? = l[j]?) →
      val (o.take k) + B ^ k * c = d + 10 * val (l.take k) → I [.string t, a, .int .i64 (i : Int), .int .u64 (c : Int), .int .i64 (k : Int)] h2 := by
    intro e
    induction e with
    | zero =>
      intro k o c h2 hk ho nb hc hj hv
      refine hI _ _ _ _ _ _ ?_
      unfold round28_14
      simp only [intK_int, strW_string]
      rw [nb.len, cond_dec]
      refine ⟨fun x => absurd x (by omega), fun _ => ?_⟩
      have hk' : k = l.length := by omega
      subst hk'
      rw [val_full (l := o) (by omega), val_full (l := l) (by omega)] at hv
      exact hK _ _ _ nb ho hc hv
    | succ e ih =>
      intro k o c h2 hk ho nb hc hj hv
      refine hI _ _ _ _ _ _ ?_
      unfold round28_14
      simp only [intK_int, strW_string]
      rw [nb.len, cond_dec]
      refine ⟨fun _ => ?_, fun x => absurd (show (k : Int) < (o.length : Int) by omega) x⟩
      refine nb.nr.at_ (by omega) (by omega) fun p x hx hxB ha => ⟨_, ha, ?_⟩
      rw [Int.toNat_natCast] at hx
      have e2 : IntKind.wrap .u64 ((c : Int) + IntKind.wrap .u64 ((10 : Int) * IntKind.wrap .u64 (x : Int))) = ((c + 10 * x : Nat) : Int) := by
        rw [u64_id (n := (x : Int)) (by omega) (by omega), u64_id (n := (10 : Int) * (x : Int)) (by omega) (by omega), u64_id (by omega) (by omega)]
        omega
      rw [e2]
      refine nb.put (by trivial) (by trivial) (x := (c + 10 * x) % B) k rfl (by omega) (by rw [u32_mod]; rfl) (Nat.mod_lt _ (by decide)) (fun h3 nb3 => ?_)
      refine ⟨by decide, ?_⟩
      rw [shr32, i64_id (by omega) (by omega)]
      have := ih (k + 1) (o.set k ((c + 10 * x) % B)) ((c + 10 * x) / B) h3 (by omega) (by simpa using ho) nb3 (ten_step hc hxB rfl) (fun j hjk => by
          rw [List.getElem?_set, if_neg (by omega)]; exact hj j (by omega)) (by
          have hlx : l[k]? = some x := by rw [← hj k (Nat.le_refl _)]; exact hx
          rw [val_set_take (by omega), val_take_succ, dig_of hlx, Nat.pow_succ, carry_step hv rfl, Nat.mul_add, Nat.mul_left_comm 10]
          omega)
      simpa [hB] using this
  exact key l.length 0 l d h1 (by omega) rfl nb hd (fun _ _ => rfl) (by simp [val])

theorem refparse_loop {D : Orc} {h0 : H} {s : ByteArray} (hs : s.size < 2 ^ 62) (hd : (bts s).all isDig = true) {K : Kl}
    (hK : ∀ h2 a, Nb h0 h2 a (limbs (dec (bts s))) → (limbs (dec (bts s))).length ≤ 64 → K (.e 2) [a] h2)
    (hR : ∀ h2, Ext h0 h2 → 64 < (limbs (dec (bts s))).length → K .r [.slice none 0 0, .int .i64 2] h2) {h1 : H} {a0 : Value} (nb0 : Nb h0 h1 a0 []) :
    loop28_10 D [.string s, a0, .int .i64 (0 : Int)] h1 K := by
  intro I hI
  have hB : B = 4294967296 := rfl
  have key : ∀ d i : Nat, ∀ (a : Value) (h2 : H), i + d = s.size → Nb h0 h2 a (limbs (dec ((bts s).take i))) → (limbs (dec ((bts s).take i))).length ≤ 64 → I [.string s, a, .int .i64 (i : Int)] h2 := by
    intro d
    induction d with
    | zero =>
      intro i a h2 hi nb h64
      refine hI _ _ _ _ ?_
      unfold round28_10
      simp only [strW_string, intK_int]
      rw [cond_dec]
      refine ⟨fun x => absurd x (by omega), fun _ => ?_⟩
      rw [List.take_of_length_le (by rw [bts_len]; omega)] at nb h64
      exact hK _ _ nb h64
    | succ d ih =>
      intro i a h2 hi nb h64
      refine hI _ _ _ _ ?_
      unfold round28_10
      simp only [strW_string, intK_int]
      rw [cond_dec]
      refine ⟨fun _ => ?_, fun x => absurd (show (i : Int) < (s.size : Int) by omega) x⟩
      refine strAt_rule (by omega) (by omega) fun x hx => ?_
      rw [Int.toNat_natCast] at hx
      have hxd : isDig x = true := List.all_eq_true.mp hd x (List.mem_of_getElem? hx)
      obtain ⟨hx1, hx2⟩ := dig_val hxd
      rw [hx1]
      refine refparse_inner h64 hx2 (fun h3 o c nb3 ho hc hv => ?_) nb
      simp only [xs_e, nth0, nth1, nth2, nth3, strW_string, intK_int, Nat.beq_refl, cond_true]
      have hstep := ten_limbs (c := c) (d := x.toNat - 48) (v := dec ((bts s).take i)) nb3.ok ho (by omega) (by rw [val_limbs] at hv; exact hv)
      rw [← dec_take_succ hx] at hstep
      have last : ∀ a' h', Nb h0 h' a' (limbs (dec ((bts s).take (i + 1)))) → j28_10_21 D I K (.string s) a' (.int .i64 (i : Int)) h' := by
        intro a' h' nb'
        unfold j28_10_21
        simp only [strW_string, intK_int]
        rw [nb'.len, cond_dec]
        refine ⟨fun h5 => hR _ nb'.ext ?_, fun h5 => ?_⟩
        · have := limbs_mono (dec_take_le (bts s) (s.size - (i + 1)) (i + 1) (by rw [bts_len]; omega))
          omega
        · rw [i64_id (by omega) (by omega), show (i : Int) + 1 = ((i + 1 : Nat) : Int) by omega]
          exact ih (i + 1) a' h' (by omega) nb' (by omega)
      rw [cond_dec]
      refine ⟨fun h5 => ?_, fun h5 => ?_⟩
      · rw [if_pos (by omega)] at hstep
        rw [← hstep] at last
        exact nb3.push (by omega) (c := c) (by omega) (by rw [u32_id (by omega) (by omega)]) (by trivial) (by trivial) (fun a' h' nb' => last a' h' nb')
      · rw [if_neg (by omega)] at hstep
        rw [← hstep] at last
        exact last _ _ nb3
  have h0l : limbs (dec ((bts s).take 0)) = [] := by
    have : dec ((bts s).take 0) = 0 := rfl
    rw [this, limbs_zero]
  exact key s.size 0 _ h1 (by omega) (by rw [h0l]; exact nb0) (by rw [h0l]; decide)

/-- All signs are looked at. -/
theorem digits_loop {D : Orc} {s : ByteArray} (hs : s.size < 2 ^ 62) {K : Kl} {h : H} (hK : (bts s).all isDig = true → K (.e 0) [.string s] h) (hR : (bts s).all isDig = false → K .r [.slice none 0 0, .int .i64 11] h) :
    loop28_4 D [.string s, .int .i64 (0 : Int)] h K := by
  intro I hI
  have key : ∀ d i : Nat, i + d = s.size → ((bts s).take i).all isDig = true → I [.string s, .int .i64 (i : Int)] h := by
    intro d
    induction d with
    | zero =>
      intro i hi ha
      refine hI _ _ _ ?_
      unfold round28_4
      simp only [strW_string, intK_int]
      rw [cond_dec]
      refine ⟨fun x => absurd x (by omega), fun _ => hK ?_⟩
      rw [List.take_of_length_le (by rw [bts_len]; omega)] at ha
      exact ha
    | succ d ih =>
      intro i hi ha
      refine hI _ _ _ ?_
      unfold round28_4
      simp only [strW_string, intK_int]
      rw [cond_dec]
      refine ⟨fun _ => ?_, fun x => absurd (show (i : Int) < (s.size : Int) by omega) x⟩
      refine strAt_rule (by omega) (by omega) fun x hx => ?_
      rw [Int.toNat_natCast] at hx
      have yes : isDig x = true → j28_4_7 D I K (.string s) (.int .i64 (i : Int)) (.bool false) h := by
        intro h1
        unfold j28_4_7
        simp only [strW_string, intK_int, boolW_bool, cond_false]
        rw [i64_id (by omega) (by omega), show (i : Int) + 1 = ((i + 1 : Nat) : Int) by omega]
        refine ih (i + 1) (by omega) ?_
        rw [List.take_add_one, hx, List.all_append, ha]
        simpa using h1
      have no : isDig x = false → j28_4_7 D I K (.string s) (.int .i64 (i : Int)) (.bool true) h := by
        intro h1
        unfold j28_4_7
        simp only [strW_string, intK_int, boolW_bool, cond_true]
        refine hR ?_
        rw [List.all_eq_false]
        exact ⟨x, List.mem_of_getElem? hx, by rw [h1]; decide⟩
      rw [cond_not, cond_dec]
      refine ⟨fun h1 => ?_, fun h1 => ?_⟩
      · refine no ?_
        simp only [isDig, Bool.and_eq_false_iff, decide_eq_false_iff_not]; omega
      · refine strAt_rule (by omega) (by omega) fun y hy => ?_
        rw [Int.toNat_natCast, hx] at hy
        obtain rfl := Option.some.inj hy
        by_cases h2 : (x.toNat : Int) > 57
        · rw [decide_eq_true h2]
          refine no ?_
          simp only [isDig, Bool.and_eq_false_iff, decide_eq_false_iff_not]; omega
        · rw [decide_eq_false h2]
          refine yes ?_
          simp only [isDig, Bool.and_eq_true, decide_eq_true_eq]; omega
  exact key s.size 0 (by omega) rfl

theorem spec28 {D : Orc} (c : Cl28 D) : SpecParse D 28 := by
  intro s h k kp hs hk
  refine c _ _ _ _ ?_
  unfold F28
  rw [strW_string, cond_not, cond_eq]
  have bad : textOk (bts s) = false → j28__2 D k kp (.string s) (.bool true) h := by
    intro h1
    unfold j28__2
    simp only [strW_string, boolW_bool, cond_true]
    have := hk (.slice none 0 0) h
    simp only [readNat, h1] at this
    exact this (Nb.nil_ (Ext.refl h))
  have good : bts s ≠ [] → (∀ x r, bts s = x :: r → x = 48 → r = []) → j28__2 D k kp (.string s) (.bool false) h := by
    intro hne hz
    have hok : textOk (bts s) = (bts s).all isDig := by
      cases hb : bts s with
      | nil => exact absurd hb hne
      | cons x r =>
        unfold textOk
        by_cases hx : x = 48
        · rw [hz x r hb hx]; simp
        · have : (!(x == 48)) = true := by simpa using hx
          simp only [this, Bool.true_or, Bool.true_and]
    unfold j28__2
    simp only [strW_string, boolW_bool, cond_false]
    refine digits_loop hs (fun ha => ?_) (fun ha => ?_)
    · simp only [xs_e, nth0, Nat.beq_refl, cond_true, strW_string]
      intro b hb
      rw [ha] at hok
      simp only [readNat, hok, if_true] at hk
      have nb0 : Nb h (h.set b (.cells [])) (.slice (some ⟨b, 0, none⟩) 0 0) [] := ⟨Ext.new hb, Buf.cells (vs := []) hb set_here rfl, fun _ h => by simp at h, by decide⟩
      refine refparse_loop (h0 := h) hs ha (fun h2 a nb h64 => ?_) (fun h2 he2 h64 => ?_) nb0
      · simp only [xs_e, nth0, Nat.beq_refl, cond_true]
        rw [if_pos h64] at hk
        exact hk a h2 nb
      · simp only [xs_r, nth0, nth1, intK_int]
        rw [if_neg (by omega)] at hk
        exact hk _ h2 (Nb.nil_ he2)
    · simp only [xs_r, nth0, nth1, intK_int]
      rw [ha] at hok
      have := hk (.slice none 0 0) h
      simp only [readNat, hok] at this
      exact this (Nb.nil_ (Ext.refl h))
  refine ⟨fun h1 => bad (by
    have : bts s = [] := List.length_eq_zero_iff.mp (by rw [bts_len]; omega)
    rw [this]; rfl), fun h1 => ?_⟩
  have hne : bts s ≠ [] := fun h0 => h1 (by rw [← bts_len, h0]; rfl)
  rw [cond_dec]
  refine ⟨fun h2 => ?_, fun h2 => ?_⟩
  · refine strAt_rule (by omega) (by omega) fun x hx => ?_
    have hcons : bts s = x :: (bts s).drop 1 := by
      cases hb : bts s with
      | nil => exact absurd hb hne
      | cons y l => rw [hb] at hx; simp at hx; subst hx; rfl
    by_cases h3 : x = 48
    · subst h3
      have : (((48 : UInt8).toNat : Int) == 48) = true := rfl
      rw [this]
      refine bad ?_
      rw [hcons]
      have hl : 0 < ((bts s).drop 1).length := by rw [List.length_drop, bts_len]; omega
      unfold textOk
      cases hr : (bts s).drop 1 with
      | nil => rw [hr] at hl; simp at hl
      | cons y r => rfl
    · have : ((x.toNat : Int) == 48) = false := by
        rw [beq_eq_false_iff_ne]
        intro h4
        exact h3 (u8_eq.mp (by rw [h4]; rfl))
      rw [this]
      refine good hne fun y r hb hy => ?_
      rw [hcons] at hb
      cases hb
      exact absurd hy h3
  · refine good hne fun y r hb hy => ?_
    have : (bts s).length = 1 := by rw [bts_len]; have := List.length_pos_iff.mpr hne; rw [bts_len] at this; omega
    rw [hb] at this
    exact List.length_eq_zero_iff.mp (by simpa using this)
end Go.Proofs.YtkgjpdadeakacaaDoor.Am

namespace Go.Proofs.YtkgjpdadeakacaaDoor.Am
open Go Go.Proofs Nats
set_option linter.unusedVariables false
set_option linter.unusedSimpArgs false

theorem val_drop {l : List Nat} {i : Nat} (h : i < l.length) : val (l.drop i) = dig l i + B * val (l.drop (i + 1)) := by
  rw [List.drop_eq_getElem_cons h, val, dig_of (List.getElem?_eq_getElem h)]
theorem drop_set {l : List Nat} {i x : Nat} (h : i < l.length) : (l.set i x).drop i = x :: l.drop (i + 1) := by
  rw [List.drop_eq_getElem_cons (by simpa using h)]
  simp [List.drop_set]
theorem div_step {q r t x m w : Nat} (h : w = m * q + r) (ht : t = r * B + x) : x + B * w = m * (t / m + B * q) + t % m := by
  subst h ht
  have h1 := Nat.div_add_mod (r * B + x) m
  have e1 : B * (m * q + r) = m * (B * q) + r * B := by rw [Nat.mul_add, Nat.mul_left_comm, Nat.mul_comm B r]
  rw [e1, Nat.mul_add]
  omega
theorem div_lt' {r x m : Nat} (hr : r < m) (hx : x < B) : (r * B + x) / m < B := by
  rw [Nat.div_lt_iff_lt_mul (by omega)]
  have h1 : (r + 1) * B ≤ m * B := Nat.mul_le_mul_right _ hr
  rw [Nat.add_mul, Nat.one_mul] at h1
  rw [Nat.mul_comm B m]
  omega

/-- Digits, the greatest first. -/
def rdig (w : Nat) : List UInt8 := if h : w = 0 then [] else rdig (w / 10) ++ [UInt8.ofNat (48 + w % 10)]
termination_by w
decreasing_by exact Nat.div_lt_self (Nat.pos_of_ne_zero h) (by decide)
theorem rdig_zero : rdig 0 = [] := by rw [rdig]; simp
theorem rdig_pos {w : Nat} (h : w ≠ 0) : rdig w = rdig (w / 10) ++ [UInt8.ofNat (48 + w % 10)] := by rw [rdig]; simp [h]
def txt (v : Nat) : List UInt8 := if v = 0 then [48] else rdig v
theorem shl32 {r : Nat} (h : r < 2 ^ 32) : IntKind.wrap .u64 ((r : Int) * 2 ^ (min (Int.toNat (32 : Int)) (IntKind.bits .u64))) = ((r * 4294967296 : Nat) : Int) := by
  have e : (2 : Int) ^ (min (Int.toNat (32 : Int)) (IntKind.bits .u64)) = 4294967296 := by decide
  rw [e, u64_id (by omega) (by omega)]
  omega

/-- The document's inner loop: all is divided by ten. -/
theorem reftext_inner {D : Orc} {h0 : H} {t : ByteArray} {a : Value} {l : List Nat} (hl : l.length ≤ 64) {K : Kl}
    (hK : ∀ h2 o r, Nb h0 h2 a o → o.length = l.length → r < 10 → val l = 10 * val o + r → K (.e 2) [a, .string t, .int .u64 (r : Int)] h2)
    {h1 : H} (nb : Nb h0 h1 a l) :
    loop26_10 D [a, .string t, .int .u64 (0 : Int), .int .i64 ((l.length : Int) - 1)] h1 K := by
  intro I hI
  have hB : B = 4294967296 := rfl
  have key : ∀ n : Nat, ∀ (o : List Nat) (r : Nat) (h2 : H), n ≤ l.length → o.length = l.length → Nb h0 h2 a o → r < 10 → (∀ j, j < n → o[j]? = l[j]?) →
      val (l.drop n) = 10 * val (o.drop n) + r → I [a, .string t, .int .u64 (r : Int), .int .i64 ((n : Int) - 1)] h2 := by
    intro n
    induction n with
    | zero =>
      intro o r h2 hn ho nb hr hj hv
      refine hI _ _ _ _ _ ?_
      unfold round26_10
      simp only [intK_int, strW_string]
      rw [cond_dec]
      refine ⟨fun x => absurd x (by omega), fun _ => ?_⟩
      exact hK _ _ _ nb ho hr hv
    | succ n ih =>
      intro o r h2 hn ho nb hr hj hv
      refine hI _ _ _ _ _ ?_
      unfold round26_10
      simp only [intK_int, strW_string]
      rw [cond_dec, show ((n + 1 : Nat) : Int) - 1 = (n : Int) by omega]
      refine ⟨fun _ => ⟨by decide, ?_⟩, fun x => absurd (show (n : Int) ≥ 0 by omega) x⟩
      refine nb.nr.at_ (by omega) (by omega) fun p x hx hxB ha => ⟨_, ha, ?_⟩
      rw [Int.toNat_natCast] at hx
      have hlt : (r * 4294967296 + x) / 10 < 4294967296 := div_lt' hr hxB
      have hxB' : x < 4294967296 := hxB
      have e2 : IntKind.wrap .u64 (IntKind.wrap .u64 ((r : Int) * 2 ^ (min (Int.toNat (32 : Int)) (IntKind.bits .u64))) + IntKind.wrap .u64 (x : Int)) = ((r * 4294967296 + x : Nat) : Int) := by
        rw [shl32 (by omega), u64_id (n := (x : Int)) (by omega) (by omega), u64_id (by omega) (by omega)]
        omega
      rw [e2]
      have e3 : IntKind.wrap .u32 (IntKind.wrap .u64 (Int.tdiv ((r * 4294967296 + x : Nat) : Int) (10 : Int))) = (((r * 4294967296 + x) / 10 : Nat) : Int) := by
        rw [Int.tdiv_eq_ediv_of_nonneg (by omega), u64_id (by omega) (by omega), u32_id (by omega) (by omega)]
        omega
      have e4 : Int.tmod ((r * 4294967296 + x : Nat) : Int) (10 : Int) = (((r * 4294967296 + x) % 10 : Nat) : Int) := by
        rw [Int.tmod_eq_emod_of_nonneg (by omega)]
        omega
      refine ⟨by decide, ?_⟩
      rw [e3, e4]
      refine nb.put (by trivial) (by trivial) (x := (r * 4294967296 + x) / 10) n rfl (by omega) rfl (div_lt' hr hxB) (fun h3 nb3 => ?_)
      refine ⟨by decide, ?_⟩
      rw [i64_id (by omega) (by omega)]
      refine ih (o.set n ((r * 4294967296 + x) / 10)) ((r * 4294967296 + x) % 10) h3 (by omega) (by simpa using ho) nb3 (Nat.mod_lt _ (by decide)) (fun j hjn => by
        rw [List.getElem?_set, if_neg (by omega)]; exact hj j (by omega)) ?_
      have hlx : l[n]? = some x := by rw [← hj n (by omega)]; exact hx
      rw [val_drop (by omega), dig_of hlx, drop_set (by omega), val]
      exact div_step hv rfl
  exact key l.length l 0 h1 (Nat.le_refl _) rfl nb (by decide) (fun _ _ => rfl) (by simp [val])
end Go.Proofs.YtkgjpdadeakacaaDoor.Am

namespace Go.Proofs.YtkgjpdadeakacaaDoor.Am
open Go Go.Proofs Nats
set_option linter.unusedVariables false
set_option linter.unusedSimpArgs false

theorem rdig_len : ∀ (n w : Nat), w < 10 ^ n → (rdig w).length ≤ n
  | 0, w, h => by
    have : w = 0 := by simpa using h
    subst this; rw [rdig_zero]; simp
  | n + 1, w, h => by
    by_cases h0 : w = 0
    · subst h0; rw [rdig_zero]; simp
    · rw [rdig_pos h0, List.length_append]
      have := rdig_len n (w / 10) (by rw [Nat.pow_succ] at h; omega)
      simp; omega
theorem tens_big {n k : Nat} (hn : n = 640) (hk : k = 64) : B ^ k ≤ 10 ^ n := by
  have h : n = 10 * k := by omega
  rw [h, Nat.pow_mul]
  exact Nat.pow_le_pow_left (by decide) k
theorem big_len {v : Nat} (h : v < B ^ 64) : (rdig v).length ≤ 640 := by
  obtain ⟨n, hn⟩ : ∃ n, n = 640 := ⟨_, rfl⟩
  rw [← hn]
  exact rdig_len n v (Nat.lt_of_lt_of_le h (tens_big hn rfl))

/-- What is told of a text: its digits, or that the row is no natural. -/
def SpecText (D : Orc) (f : Nat) : Prop := ∀ a l h (k : Kv) kp, Nr h a l →
  (right l → ∀ t h', Ext h h' → bts t = txt (val l) → k (.tuple #[.string t, .int .i64 0]) h') →
  (¬ right l → k (.tuple #[.string (ByteArray.mk #[]), .int .i64 10]) h) → D f [a] h k kp

theorem reftext_loop {D : Orc} (t30 : SpecTrim D 30) {h0 : H} {v : Nat} (hv : v < B ^ 64) {K : Kl}
    (hK : ∀ h2 t, Ext h0 h2 → bts t = rdig v → K (.e 0) [.string t] h2) :
    ∀ (w : Nat) (a : Value) (t : ByteArray) (h1 : H), Nb h0 h1 a (limbs w) → w ≤ v → rdig w ++ bts t = rdig v → ∀ (I : List Value → H → Prop), (∀ a0 a1 h, round26_7 D I K a0 a1 h → I [a0, a1] h) → I [a, .string t] h1 := by
  intro w
  induction w using Nat.strongRecOn with
  | _ w ih =>
    intro a t h1 nb hwv ht I hI
    refine hI _ _ _ ?_
    unfold round26_7
    simp only [strW_string]
    have h64 : (limbs w).length ≤ 64 := by
      cases hn : (limbs w).length with
      | zero => omega
      | succ n =>
        have := limbs_low hn
        have h3 : B ^ n < B ^ 64 := by omega
        have := (Nat.pow_lt_pow_iff_right (by decide)).mp h3
        omega
    have hlen : (bts t).length ≤ 640 := by
      have := congrArg List.length ht
      rw [List.length_append] at this
      have := big_len hv
      omega
    rw [nb.len, cond_dec]
    refine ⟨fun h2 => ?_, fun h2 => ?_⟩
    · rw [nb.len, i64_id (by omega) (by omega)]
      refine reftext_inner h64 (fun h3 o r nb3 ho hr hvo => ?_) nb
      rw [val_limbs] at hvo
      simp only [xs_e, nth0, nth1, nth2, nth3, strW_string, intK_int, Nat.beq_refl, cond_true]
      have hw0 : w ≠ 0 := by
        rintro rfl
        rw [limbs_zero] at h2
        exact absurd h2 (by decide)
      have e1 : IntKind.wrap .u8 (IntKind.wrap .u64 ((48 : Int) + (r : Int))) = (((UInt8.ofNat (48 + r)).toNat : Nat) : Int) := by
        rw [u64_id (by omega) (by omega), IntWalk.u8_in _ (by omega)]
        have : (UInt8.ofNat (48 + r)).toNat = 48 + r := by simp; omega
        rw [this]; omega
      rw [e1]
      refine ⟨by trivial, by decide, ?_⟩
      intro b hb
      have hrow : Row (h3.set b (.cells (U8 [UInt8.ofNat (48 + r)]))) (.slice (some ⟨b, 0, none⟩) 1 1) (U8 [UInt8.ofNat (48 + r)]) := Row.cells set_here rfl
      refine bs_rule hrow fun u hu => ⟨?_, ?_⟩
      · rw [← bts_len, ← bts_len, hu, List.length_singleton]; omega
      · have nb4 : Nb h0 (h3.set b (.cells (U8 [UInt8.ofNat (48 + r)]))) a o := ⟨nb3.ext.trans (Ext.new hb), nb3.buf.ext (Ext.new hb), nb3.ok, nb3.small⟩
        refine t30 _ _ _ _ _ nb4.nr ⟨_, rfl, ?_⟩
        have hvo10 : val o = w / 10 := by omega
        have hr10 : r = w % 10 := by omega
        have nb5 := nb4.trim
        rw [hvo10] at nb5 ⊢
        refine ih (w / 10) (Nat.div_lt_self (by omega) (by decide)) _ _ _ nb5 (by omega) ?_ I hI
        rw [bts_append, hu, ← ht, rdig_pos hw0, hr10, List.append_assoc]
    · have hw0 : w = 0 := by
        have : (limbs w) = [] := List.length_eq_zero_iff.mp (by omega)
        have h3 := val_limbs w
        rw [this] at h3
        exact h3.symm
      subst hw0
      rw [rdig_zero] at ht
      exact hK _ t nb.ext ht

theorem spec26 {D : Orc} (c : Cl26 D) (g : SpecRight D 12) (t30 : SpecTrim D 30) : SpecText D 26 := by
  intro a l h k kp r hk1 hk2
  refine c _ _ _ _ ?_
  unfold F26
  refine g _ _ _ _ _ r ⟨_, rfl, ?_⟩
  rw [cond_not, cond_dec]
  refine ⟨fun hr => ?_, fun hr => hk2 hr⟩
  have hk := hk1 hr
  have h64 := hr.1
  rw [r.len, cond_eq]
  refine ⟨fun h1 => ?_, fun h1 => ?_⟩
  · have : l = [] := List.length_eq_zero_iff.mp (by omega)
    subst this
    exact hk _ h (Ext.refl h) rfl
  · intro b hb
    have nb0 : Nb h (h.set b (.cells (U []))) (.slice (some ⟨b, 0, none⟩) 0 0) [] := ⟨Ext.new hb, Buf.cells hb set_here rfl, fun _ h => by simp at h, by decide⟩
    have r1 := r.ext nb0.ext
    have hsl : slenW a = fun k => k l.length := by
      funext k
      have := r1.row.slen (k := k)
      rw [U_len] at this
      exact propext this
    rw [hsl]
    refine r1.row.src (by rw [U_len]; omega) ?_
    have e0 : (U l).take l.length = U l := by rw [List.take_of_length_le (by rw [U_len]; omega)]
    rw [e0]
    have e1 : l.length = (U l).length := (U_len l).symm
    rw [e1]
    refine nb0.buf.app nb0.ext rfl (U_all l) (by rw [U_len, U_len]; simp; omega) (by rw [U_len, U_len]; simp; omega) fun s' h2 hb2 he2 => ?_
    have nb1 : Nb h h2 s' (limbs (val l)) := by
      refine ⟨he2, ?_, ok_limbs _, ?_⟩
      · rw [← hr.2]; simpa [U] using hb2
      · rw [← hr.2]; exact r.small
    have hv : val l < B ^ 64 := Nat.lt_of_lt_of_le (val_lt r.ok) (Nat.pow_le_pow_right (by decide) h64)
    intro I hI
    refine reftext_loop t30 hv (fun h3 t he ht => ?_) (val l) s' (ByteArray.mk #[]) h2 nb1 (Nat.le_refl _) (by simp [bts]) I hI
    simp only [xs_e, nth0, Nat.beq_refl, cond_true, strW_string]
    refine hk t h3 he ?_
    rw [ht]
    unfold txt
    rw [if_neg]
    intro h0
    have hr2 := hr.2
    rw [h0, limbs_zero] at hr2
    exact h1 (by rw [hr2]; rfl)
end Go.Proofs.YtkgjpdadeakacaaDoor.Am

namespace Go.Proofs.YtkgjpdadeakacaaDoor.Am
open Go Go.Proofs Nats
set_option linter.unusedVariables false
set_option linter.unusedSimpArgs false

theorem or_add {r x : Nat} (hr : r < 2 ^ 30) (hx : x < 2 ^ 32) :
    IntKind.wrap .u64 ((BitVec.ofInt (IntKind.bits .u64) (IntKind.wrap .u64 ((r : Int) * 2 ^ (min (Int.toNat (32 : Int)) (IntKind.bits .u64)))) ||| BitVec.ofInt (IntKind.bits .u64) (IntKind.wrap .u64 (x : Int))).toNat : Int) = ((r * 4294967296 + x : Nat) : Int) := by
  rw [shl32 (by omega), u64_id (n := (x : Int)) (by omega) (by omega)]
  have e : (BitVec.ofInt (IntKind.bits .u64) ((r * 4294967296 : Nat) : Int) ||| BitVec.ofInt (IntKind.bits .u64) (x : Int)).toNat = r * 4294967296 + x := by
    rw [BitVec.ofInt_natCast, BitVec.ofInt_natCast, BitVec.toNat_or, BitVec.toNat_ofNat, BitVec.toNat_ofNat]
    have e64 : (2 : Nat) ^ (IntKind.bits .u64) = 18446744073709551616 := by decide
    rw [e64, Nat.mod_eq_of_lt (by omega), Nat.mod_eq_of_lt (by omega)]
    have := Nat.two_pow_add_eq_or_of_lt (i := 32) (b := x) hx r
    rw [Nat.mul_comm r]
    exact this.symm
  rw [e, u64_id (by omega) (by omega)]
theorem text_inner {D : Orc} {h0 : H} {ds a : Value} {l : List Nat} (hl : l.length ≤ 64) {K : Kl}
    (hK : ∀ h2 o r, Nb h0 h2 a o → Ext h0 h2 → o.length = l.length → r < 1000000000 → val l = 1000000000 * val o + r → K (.e 2) [ds, a, .int .u64 (r : Int)] h2)
    {h1 : H} (nb : Nb h0 h1 a l) :
    loop25_10 D [ds, a, .int .u64 (0 : Int), .int .i64 ((l.length : Int) - 1)] h1 K := by
  intro I hI
  have hB : B = 4294967296 := rfl
  have key : ∀ n : Nat, ∀ (o : List Nat) (r : Nat) (h2 : H), n ≤ l.length → o.length = l.length → Nb h0 h2 a o → r < 1000000000 → (∀ j, j < n → o[j]? = l[j]?) →
      val (l.drop n) = 1000000000 * val (o.drop n) + r → I [ds, a, .int .u64 (r : Int), .int .i64 ((n : Int) - 1)] h2 := by
    intro n
    induction n with
    | zero =>
      intro o r h2 hn ho nb hr hj hv
      refine hI _ _ _ _ _ ?_
      unfold round25_10
      simp only [intK_int, strW_string]
      rw [cond_dec]
      refine ⟨fun x => absurd x (by omega), fun _ => ?_⟩
      exact hK _ _ _ nb nb.ext ho hr hv
    | succ n ih =>
      intro o r h2 hn ho nb hr hj hv
      refine hI _ _ _ _ _ ?_
      unfold round25_10
      simp only [intK_int, strW_string]
      rw [cond_dec, show ((n + 1 : Nat) : Int) - 1 = (n : Int) by omega]
      refine ⟨fun _ => ⟨by decide, ?_⟩, fun x => absurd (show (n : Int) ≥ 0 by omega) x⟩
      refine nb.nr.at_ (by omega) (by omega) fun p x hx hxB ha => ⟨_, ha, ?_⟩
      rw [Int.toNat_natCast] at hx
      have hlt : (r * 4294967296 + x) / 1000000000 < 4294967296 := div_lt' hr hxB
      have hxB' : x < 4294967296 := hxB
      rw [or_add (by omega) (by omega)]
      have e3 : IntKind.wrap .u32 (IntKind.wrap .u64 (Int.tdiv ((r * 4294967296 + x : Nat) : Int) (1000000000 : Int))) = (((r * 4294967296 + x) / 1000000000 : Nat) : Int) := by
        rw [Int.tdiv_eq_ediv_of_nonneg (by omega), u64_id (by omega) (by omega), u32_id (by omega) (by omega)]
        omega
      have e4 : Int.tmod ((r * 4294967296 + x : Nat) : Int) (1000000000 : Int) = (((r * 4294967296 + x) % 1000000000 : Nat) : Int) := by
        rw [Int.tmod_eq_emod_of_nonneg (by omega)]
        omega
      refine ⟨by decide, ?_⟩
      rw [e3, e4]
      refine nb.put (by trivial) (by trivial) (x := (r * 4294967296 + x) / 1000000000) n rfl (by omega) rfl (div_lt' hr hxB) (fun h3 nb3 => ?_)
      refine ⟨by decide, ?_⟩
      rw [i64_id (by omega) (by omega)]
      refine ih (o.set n ((r * 4294967296 + x) / 1000000000)) ((r * 4294967296 + x) % 1000000000) h3 (by omega) (by simpa using ho) nb3 (Nat.mod_lt _ (by decide)) (fun j hjn => by
        rw [List.getElem?_set, if_neg (by omega)]; exact hj j (by omega)) ?_
      have hlx : l[n]? = some x := by rw [← hj n (by omega)]; exact hx
      rw [val_drop (by omega), dig_of hlx, drop_set (by omega), val]
      exact div_step hv rfl
  exact key l.length l 0 h1 (Nat.le_refl _) rfl nb (by decide) (fun _ _ => rfl) (by simp [val])
end Go.Proofs.YtkgjpdadeakacaaDoor.Am

namespace Go.Proofs.YtkgjpdadeakacaaDoor.Am
open Go Go.Proofs Nats
set_option linter.unusedVariables false
set_option linter.unusedSimpArgs false

/-- The value of digits, the least first. -/
def lsb : List UInt8 → Nat
  | [] => 0
  | x :: l => (x.toNat - 48) + 10 * lsb l
theorem lsb_app : ∀ (l m : List UInt8), lsb (l ++ m) = lsb l + 10 ^ l.length * lsb m
  | [], m => by simp [lsb]
  | x :: l, m => by
    rw [List.cons_append, lsb, lsb_app l m, lsb, List.length_cons, Nat.pow_succ, Nat.mul_add, ← Nat.mul_assoc, Nat.mul_comm 10 (10 ^ l.length)]
    omega
theorem lsb_snoc (l : List UInt8) (d : Nat) (hd : d < 10) : lsb (l ++ [UInt8.ofNat (48 + d)]) = lsb l + 10 ^ l.length * d := by
  rw [lsb_app]
  have : (UInt8.ofNat (48 + d)).toNat = 48 + d := by simp; omega
  simp only [lsb, this, Nat.mul_zero, Nat.add_zero]
  congr 2; omega
theorem isDig_of {d : Nat} (hd : d < 10) : isDig (UInt8.ofNat (48 + d)) = true := by
  have : (UInt8.ofNat (48 + d)).toNat = 48 + d := by simp; omega
  simp only [isDig, this, Bool.and_eq_true, decide_eq_true_eq]; omega
/-- Digits turned round, without the noughts ahead: the number's own. -/
theorem strip_rdig : ∀ (l : List UInt8), l.all isDig = true → l.reverse.dropWhile (· == 48) = rdig (lsb l)
  | [], _ => by rw [lsb, rdig_zero]; rfl
  | x :: l, h => by
    simp only [List.all_cons, Bool.and_eq_true] at h
    obtain ⟨hx, hl⟩ := h
    have ih := strip_rdig l hl
    simp only [isDig, Bool.and_eq_true, decide_eq_true_eq] at hx
    rw [List.reverse_cons, lsb]
    have hx2 : UInt8.ofNat (48 + (x.toNat - 48)) = x := by
      apply UInt8.toNat_inj.mp
      simp; omega
    by_cases h0 : lsb l = 0
    · rw [h0, rdig_zero] at ih
      have hz : l.reverse.all (· == 48) = true := by
        rw [List.all_eq_true]
        intro y hy
        have key : ∀ m : List UInt8, m.dropWhile (· == 48) = [] → ∀ y ∈ m, (y == 48) = true := by
          intro m
          induction m with
          | nil => intro _ y hy; simp at hy
          | cons z m ih =>
            intro hm y hy
            rw [List.dropWhile_cons] at hm
            by_cases hz : (z == 48) = true
            · rw [if_pos hz] at hm
              rcases List.mem_cons.mp hy with rfl | hy
              · exact hz
              · exact ih hm y hy
            · rw [if_neg hz] at hm; cases hm
        exact key _ ih y hy
      rw [h0, List.dropWhile_append, ih]
      simp only [List.isEmpty_nil, if_true]
      by_cases hx0 : x = 48
      · subst hx0
        have : ((48 : UInt8).toNat - 48 + 10 * 0) = 0 := rfl
        rw [this, rdig_zero]; rfl
      · have hne : x.toNat - 48 + 10 * 0 ≠ 0 := by
          intro h1
          apply hx0
          apply UInt8.toNat_inj.mp
          have : (48 : UInt8).toNat = 48 := rfl
          omega
        rw [rdig_pos hne]
        have e1 : (x.toNat - 48 + 10 * 0) / 10 = 0 := by omega
        have e2 : (x.toNat - 48 + 10 * 0) % 10 = x.toNat - 48 := by omega
        rw [e1, e2, rdig_zero, hx2]
        simp [hx0]
    · have hne : x.toNat - 48 + 10 * lsb l ≠ 0 := by omega
      rw [rdig_pos hne]
      have e1 : (x.toNat - 48 + 10 * lsb l) / 10 = lsb l := by omega
      have e2 : (x.toNat - 48 + 10 * lsb l) % 10 = x.toNat - 48 := by omega
      rw [e1, e2, hx2, List.dropWhile_append, ih]
      have : (rdig (lsb l)).isEmpty = false := by
        rw [rdig_pos h0]; simp
      rw [this]; rfl
end Go.Proofs.YtkgjpdadeakacaaDoor.Am

namespace Go.Proofs.YtkgjpdadeakacaaDoor.Am
open Go Go.Proofs Nats
set_option linter.unusedVariables false
set_option linter.unusedSimpArgs false

/-- Two rows in blocks of their own, apart. -/
structure Two (g h : H) (ds : Value) (dl : List UInt8) (a : Value) (l : List Nat) : Prop where
  y : Yb g h ds dl
  n : Nb g h a l
  s1 : Sep ds a
  s2 : Sep a ds
theorem Two.push {g h : H} {ds a : Value} {dl : List UInt8} {l : List Nat} (w : Two g h ds dl a l) (hs : dl.length ≤ 2 ^ 20) {c : UInt8} {v : Value} (hv : v = .int .u8 (c.toNat : Int)) {T O : Prop} (hT : T) (hO : O) {K : Value → H → Prop}
    (hK : ∀ s h', Two g h' s (dl ++ [c]) a l → K s h') :
    O ∧ T ∧ newSl h 1 [v] (fun s31 h32 => slenW s31 (fun n33 => srcW h32 1 s31 (n33) (fun w34 => apW h32 1 1 [(Value.int IntKind.u8 (0 : Int))] ds (n33) w34 (fun s35 h36 => K s35 h36)))) := by
  subst hv
  refine ⟨hO, hT, ?_⟩
  intro b hb
  have hrow : Row (h.set b (.cells (U8 [c]))) (.slice (some ⟨b, 0, none⟩) 1 1) (U8 [c]) := Row.cells set_here rfl
  rw [slenW_slice]
  refine hrow.src (n := 1) (Nat.le_refl 1) ?_
  have e0 : (U8 [c]).take 1 = U8 [c] := rfl
  rw [e0]
  have e1 : Ext (h.drop ds) (h.set b (.cells (U8 [c]))) := (Ext.drop h ds).trans (Ext.new hb)
  have hb1 : Buf (h.drop ds) (h.set b (.cells (U8 [c]))) ds (U8 dl) := w.y.buf.self.ext (Ext.new hb)
  have hg : Ext g (h.drop ds) := w.y.ext.drop_of w.y.buf
  have ha : Buf g (h.drop ds) a (U l) := w.n.buf.drop w.s1
  refine hb1.app (ws := U8 [c]) e1 rfl rfl (by rw [U8_len]; simp [U8]; omega) (by rw [U8_len]; simp [U8]; omega) fun s' h2 hb2 he2 => hK _ _ ?_
  have hsep := hb2.sep ha.row
  refine ⟨⟨hg.trans he2, ?_, by simp; omega⟩, ⟨hg.trans he2, ha.ext he2, w.n.ok, w.n.small⟩, hsep.1, hsep.2⟩
  have := hb2.mono hg
  rw [U8_app] at this
  exact this

theorem chunk {D : Orc} {g : H} {ds a : Value} {dl : List UInt8} {l : List Nat} {r : Nat} (hr : r < 1000000000) (hs : dl.length + 9 ≤ 2 ^ 20) (hd : dl.all isDig = true) {K : Kl}
    (hK : ∀ h2 ds' dl', Two g h2 ds' dl' a l → dl'.length = dl.length + 9 → dl'.all isDig = true → lsb dl' = lsb dl + 10 ^ dl.length * r → K (.e 4) [ds', a] h2)
    {h1 : H} (w : Two g h1 ds dl a l) :
    loop25_16 D [ds, a, .int .u64 (r : Int), .int .i64 (0 : Int)] h1 K := by
  intro I hI
  have key : ∀ e i : Nat, ∀ (ds' : Value) (dl' : List UInt8) (x : Nat) (h2 : H), i + e = 9 → dl'.length = dl.length + i → dl'.all isDig = true → Two g h2 ds' dl' a l → x < 10 ^ e →
      lsb dl' + 10 ^ dl'.length * x = lsb dl + 10 ^ dl.length * r → I [ds', a, .int .u64 (x : Int), .int .i64 (i : Int)] h2 := by
    intro e
    induction e with
    | zero =>
      intro i ds' dl' x h2 hi hl hd' w hx hv
      refine hI _ _ _ _ _ ?_
      unfold round25_16
      simp only [intK_int]
      rw [cond_dec]
      refine ⟨fun x => absurd x (by omega), fun _ => ?_⟩
      have hx0 : x = 0 := by simpa using hx
      subst hx0
      exact hK h2 ds' dl' w (by omega) hd' (by simpa using hv)
    | succ e ih =>
      intro i ds' dl' x h2 hi hl hd' w hx hv
      have hx9 : x < 1000000000 := Nat.lt_of_lt_of_le hx (by
        have : (10 : Nat) ^ (e + 1) ≤ 10 ^ 9 := Nat.pow_le_pow_right (by decide) (by omega)
        exact this)
      refine hI _ _ _ _ _ ?_
      unfold round25_16
      simp only [intK_int]
      rw [cond_dec]
      refine ⟨fun _ => ⟨by decide, ?_⟩, fun h => absurd (show (i : Int) < 9 by omega) h⟩
      have e1 : IntKind.wrap .u8 (IntKind.wrap .u64 ((48 : Int) + Int.tmod (x : Int) (10 : Int))) = (((UInt8.ofNat (48 + x % 10)).toNat : Nat) : Int) := by
        rw [Int.tmod_eq_emod_of_nonneg (by omega), u64_id (by omega) (by omega), IntWalk.u8_in _ (by omega)]
        have : (UInt8.ofNat (48 + x % 10)).toNat = 48 + x % 10 := by simp; omega
        rw [this]; omega
      rw [e1]
      refine w.push (by omega) (c := UInt8.ofNat (48 + x % 10)) rfl (by trivial) (by trivial) fun s' h3 w3 => ?_
      refine ⟨by decide, ?_⟩
      have e2 : IntKind.wrap .u64 (Int.tdiv (x : Int) (10 : Int)) = ((x / 10 : Nat) : Int) := by
        rw [Int.tdiv_eq_ediv_of_nonneg (by omega), u64_id (by omega) (by omega)]
        omega
      rw [e2, i64_id (by omega) (by omega), show (i : Int) + 1 = ((i + 1 : Nat) : Int) by omega]
      refine ih (i + 1) s' _ (x / 10) h3 (by omega) (by simp; omega) ?_ w3 (by rw [Nat.pow_succ] at hx; omega) ?_
      · rw [List.all_append, hd', Bool.true_and, List.all_cons, isDig_of (Nat.mod_lt x (show 0 < 10 by decide)), List.all_nil]; rfl
      · rw [lsb_snoc _ _ (Nat.mod_lt x (by decide)), List.length_append, List.length_singleton, Nat.pow_succ, ← hv, Nat.add_assoc, Nat.mul_assoc, ← Nat.mul_add]
        congr 2
        omega
  exact key 9 0 ds dl r h1 (by omega) rfl hd w hr rfl
end Go.Proofs.YtkgjpdadeakacaaDoor.Am

namespace Go.Proofs.YtkgjpdadeakacaaDoor.Am
open Go Go.Proofs Nats
set_option linter.unusedVariables false
set_option linter.unusedSimpArgs false

theorem Two.cut {g h : H} {ds a : Value} {dl : List UInt8} {l : List Nat} (w : Two g h ds dl a l) : Two g h ds dl (cutTo a (limbs (val l)).length) (limbs (val l)) := by
  refine ⟨w.y, w.n.trim, ?_, ?_⟩
  · have := w.s1; unfold Sep at this ⊢; rw [Blk_cut]; exact this
  · have := w.s2; unfold Sep at this ⊢; rw [Blk_cut]; exact this
theorem text_loop {D : Orc} (t29 : SpecTrim D 29) {g : H} {v : Nat} (hv : v < B ^ 64) {K : Kl}
    (hK : ∀ h2 ds dl, Yb g h2 ds dl → dl.all isDig = true → lsb dl = v → K (.e 0) [ds] h2) :
    ∀ (w : Nat) (ds a : Value) (dl : List UInt8) (h1 : H), Two g h1 ds dl a (limbs w) → dl.all isDig = true → lsb dl + 10 ^ dl.length * w = v → ∀ (I : List Value → H → Prop), (∀ a0 a1 h, round25_6 D I K a0 a1 h → I [a0, a1] h) → I [ds, a] h1 := by
  intro w
  induction w using Nat.strongRecOn with
  | _ w ih =>
    intro ds a dl h1 tw hd hvw I hI
    refine hI _ _ _ ?_
    unfold round25_6
    rw [tw.n.len, cond_dec]
    refine ⟨fun h2 => ?_, fun h2 => ?_⟩
    · have hw0 : w ≠ 0 := by
        rintro rfl
        rw [limbs_zero] at h2
        exact absurd h2 (by decide)
      have hwv : w ≤ v := by
        have : 1 * w ≤ 10 ^ dl.length * w := Nat.mul_le_mul_right _ (Nat.pow_pos (by decide))
        omega
      have h64 : (limbs w).length ≤ 64 := by
        cases hn : (limbs w).length with
        | zero => omega
        | succ n =>
          have := limbs_low hn
          have h3 : B ^ n < B ^ 64 := by omega
          have := (Nat.pow_lt_pow_iff_right (by decide)).mp h3
          omega
      have hdl : dl.length < 640 := by
        obtain ⟨n6, hn6⟩ : ∃ n, n = 640 := ⟨_, rfl⟩
        rw [← hn6]
        have h4 : 10 ^ dl.length * 1 ≤ 10 ^ dl.length * w := Nat.mul_le_mul_left _ (by omega)
        have h5 : B ^ 64 ≤ 10 ^ n6 := tens_big hn6 rfl
        have h6 : 10 ^ dl.length < 10 ^ n6 := by omega
        exact (Nat.pow_lt_pow_iff_right (by decide)).mp h6
      rw [tw.n.len, i64_id (by omega) (by omega)]
      have hg : Ext g (h1.drop a) := tw.n.ext.drop_of tw.n.buf
      refine text_inner (h0 := h1.drop a) h64 (fun h3 o r nb3 he3 ho hr hvo => ?_) ⟨Ext.drop h1 a, tw.n.buf.self, tw.n.ok, tw.n.small⟩
      rw [val_limbs] at hvo
      have tw3 : Two g h3 ds dl a o := ⟨⟨hg.trans he3, (tw.y.buf.drop tw.s2).ext he3, tw.y.small⟩, ⟨hg.trans he3, nb3.buf.mono hg, nb3.ok, nb3.small⟩, tw.s1, tw.s2⟩
      simp only [xs_e, nth0, nth1, nth2, nth3, intK_int, Nat.beq_refl, cond_true]
      refine chunk hr (by omega) hd (fun h4 ds' dl' tw4 hl' hd' hv' => ?_) tw3
      simp only [xs_e, nth0, nth1, nth2, nth3, intK_int, Nat.beq_refl, cond_true]
      refine t29 _ _ _ _ _ tw4.n.nr ⟨_, rfl, ?_⟩
      have tw5 := tw4.cut
      have hvo9 : val o = w / 1000000000 := by omega
      rw [hvo9] at tw5 ⊢
      refine ih (w / 1000000000) (Nat.div_lt_self (by omega) (by decide)) _ _ _ _ tw5 hd' ?_ I hI
      have hr9 : r = w % 1000000000 := by omega
      have e9 : (10 : Nat) ^ (dl.length + 9) = 10 ^ dl.length * 1000000000 := by rw [Nat.pow_add]
      rw [hv', hl', e9, ← hvw, hr9, Nat.add_assoc, Nat.mul_assoc, ← Nat.mul_add, Nat.mod_add_div]
    · have hw0 : w = 0 := by
        have : (limbs w) = [] := List.length_eq_zero_iff.mp (by omega)
        have h3 := val_limbs w
        rw [this] at h3
        exact h3.symm
      subst hw0
      exact hK _ _ _ tw.y hd (by simpa using hvw)
end Go.Proofs.YtkgjpdadeakacaaDoor.Am

namespace Go.Proofs.YtkgjpdadeakacaaDoor.Am
open Go Go.Proofs Nats
set_option linter.unusedVariables false
set_option linter.unusedSimpArgs false

theorem sep_nil (s : Value) : Sep (.slice none 0 0) s := by
  unfold Sep
  cases hb : Blk s with
  | none => exact .inl rfl
  | some b => exact .inr (by simp [Blk])
theorem spec25 {D : Orc} (c : Cl25 D) (g : SpecRight D 11) (t29 : SpecTrim D 29) (t35 : SpecReverse D 35) (t36 : SpecTrimLeft0 D 36) : SpecText D 25 := by
  intro a l h k kp r hk1 hk2
  refine c _ _ _ _ ?_
  unfold F25
  refine g _ _ _ _ _ r ⟨_, rfl, ?_⟩
  rw [cond_not, cond_dec]
  refine ⟨fun hr => ?_, fun hr => hk2 hr⟩
  have hk := hk1 hr
  have h64 := hr.1
  have hv : val l < B ^ 64 := Nat.lt_of_lt_of_le (val_lt r.ok) (Nat.pow_le_pow_right (by decide) h64)
  rw [r.len]
  refine make_rule l.length rfl (by omega) fun s h1 nb => ?_
  have r1 := r.ext nb.ext
  rw [r1.row.slen, U_len, nb.nr.row.slen, U_len, List.length_replicate]
  refine r1.row.src (by rw [U_len]; omega) ?_
  rw [Nat.min_self, U_take, List.take_length]
  refine nb.buf.copy nb.ext (U_all l) (by simp [U_len]) (U_len l).symm fun h2 hb he => ?_
  have nb2 : Nb h h2 s (limbs (val l)) := by
    refine ⟨he, ?_, ok_limbs _, by rw [← hr.2]; exact r.small⟩
    rw [← hr.2]
    rw [U_drop, U_len, List.drop_replicate, Nat.sub_self, U_app] at hb
    simpa using hb
  have tw : Two h h2 (.slice none 0 0) [] s (limbs (val l)) := ⟨⟨he, .inl ⟨⟨none, rfl⟩, rfl⟩, by decide⟩, nb2, sep_nil s, .inl rfl⟩
  intro I hI
  refine text_loop t29 hv (fun h3 ds dl y hd hdl => ?_) (val l) (.slice none 0 0) s [] h2 tw rfl (by simp [lsb]) I hI
  simp only [xs_e, nth0, Nat.beq_refl, cond_true]
  refine t35 _ _ _ _ _ _ y fun h4 y4 => ⟨rfl, ?_⟩
  refine bs_rule y4.buf.row fun t ht => ?_
  have hts : t.size < 2 ^ 62 := by rw [← bts_len, ht]; have := y4.small; omega
  refine t36 _ _ _ _ hts fun u hu => ⟨u, rfl, ?_⟩
  rw [ht, strip_rdig dl hd, hdl] at hu
  unfold j25__24
  rw [strW_string, strW_string, cond_beq_nil]
  refine ⟨fun h0 => ?_, fun h0 => ?_⟩
  · refine hk _ h4 y4.ext ?_
    have : val l = 0 := by
      by_cases hz : val l = 0
      · exact hz
      · rw [h0, rdig_pos hz] at hu
        simp at hu
    unfold txt
    rw [if_pos this]; rfl
  · refine hk u h4 y4.ext ?_
    unfold txt
    rw [if_neg]
    · exact hu
    · intro hz
      rw [hz, rdig_zero] at hu
      exact h0 hu
end Go.Proofs.YtkgjpdadeakacaaDoor.Am

namespace Go.Proofs.YtkgjpdadeakacaaDoor.Am
open Go Go.Proofs Nats
set_option linter.unusedVariables false
set_option linter.unusedSimpArgs false

theorem lit_rule {h : H} {n : Nat} {cs : List Value} (l : List Nat) (hl : l.length = n) (hc : cs = U l) (ok : Ok l) (hs : l.length < 2 ^ 40) {K : Value → H → Prop} (hK : ∀ s h', Nb h h' s l → K s h') : newSl h n cs K := by
  subst hc hl
  intro b hb
  exact hK _ _ ⟨Ext.new hb, Buf.cells hb set_here (U_len l), ok, hs⟩
theorem limbs_one {n : Nat} (h0 : n ≠ 0) (h1 : n < B) : limbs n = [n] := by
  rw [limbs_pos h0, Nat.mod_eq_of_lt h1, Nat.div_eq_of_lt h1, limbs_zero]
theorem limbs_two {n : Nat} (h0 : B ≤ n) (h1 : n < B * B) : limbs n = [n % B, n / B] := by
  have hB : B = 4294967296 := rfl
  have h2 : n / B ≠ 0 := by
    intro h
    have := (Nat.div_eq_zero_iff_lt (by decide)).mp h
    omega
  rw [limbs_pos (by omega), limbs_one h2 (Nat.div_lt_of_lt_mul h1)]
theorem right_one {n : Nat} (h0 : n ≠ 0) (h1 : n < B) : right [n] := ⟨by simp, by
  have : val [n] = n := by simp [val]
  rw [this, limbs_one h0 h1]⟩
structure Env3 (D : Orc) : Prop where
  right : SpecRight D 11
  rright : SpecRight D 12
  of : SpecOf D 13
  same : SpecSame D 14
  rof : SpecOf D 15
  spoil : SpecSpoil D 16
  lent : SpecLent D 17
  add : SpecSum (· + ·) D 18
  radd : SpecSum (· + ·) D 19
  mul : SpecSum (· * ·) D 20
  rmul : SpecSum (· * ·) D 21
  cmp : SpecCmp D 22
  rcmp : SpecCmp D 23
  kept : SpecKept D 24
  text : SpecText D 25
  rtext : SpecText D 26
  parse : SpecParse D 27
  rparse : SpecParse D 28

theorem limbs_V : limbs 4294967296 = [0, 1] := limbs_two (by decide) (by decide)
theorem limbs_W : limbs 18446744065119617025 = [1, 4294967294] := limbs_two (by decide) (by decide)
theorem ex_add : outcome (both [4294967295] [1]) (val [4294967295] + val [1]) = ([0, 1], 0) := by
  have h1 : both [4294967295] [1] = true := by
    simp only [both, Bool.and_eq_true, decide_eq_true_eq]
    exact ⟨right_one (by decide) (by decide), right_one (by decide) (by decide)⟩
  have h2 : val [4294967295] + val [1] = 4294967296 := by simp [val]
  rw [h1, h2]
  simp [outcome, limbs_V]
theorem ex_mul : outcome (both [4294967295] [4294967295]) (val [4294967295] * val [4294967295]) = ([1, 4294967294], 0) := by
  have h1 : both [4294967295] [4294967295] = true := by
    simp only [both, Bool.and_eq_true, decide_eq_true_eq]
    exact ⟨right_one (by decide) (by decide), right_one (by decide) (by decide)⟩
  have h2 : val [4294967295] * val [4294967295] = 18446744065119617025 := by simp [val]
  rw [h1, h2]
  simp [outcome, limbs_W]
theorem right_V : right [0, 1] := ⟨by simp, by
  have : val [0, 1] = 4294967296 := by simp [val]
  rw [this, limbs_V]⟩
theorem not_right_0 : decide (right [0]) = false := by
  rw [decide_eq_false_iff_not]
  rintro ⟨_, h⟩
  have : val [0] = 0 := by simp [val]
  rw [this, limbs_zero] at h
  cases h
theorem ex_text : txt 4294967296 = [52, 50, 57, 52, 57, 54, 55, 50, 57, 54] := by
  unfold txt
  rw [if_neg (by decide)]
  simp [rdig_pos, rdig_zero]
theorem ex_read : readNat (bts (ByteArray.mk #[52, 50, 57, 52, 57, 54, 55, 50, 57, 54])) = ([0, 1], 0) := by
  have h0 : bts (ByteArray.mk #[52, 50, 57, 52, 57, 54, 55, 50, 57, 54]) = [52, 50, 57, 52, 57, 54, 55, 50, 57, 54] := rfl
  have h1 : textOk [52, 50, 57, 52, 57, 54, 55, 50, 57, 54] = true := by decide
  have h2 : dec [52, 50, 57, 52, 57, 54, 55, 50, 57, 54] = 4294967296 := by decide
  rw [h0]
  unfold readNat
  rw [h1, h2, limbs_V]
  rfl
end Go.Proofs.YtkgjpdadeakacaaDoor.Am

namespace Go.Proofs.YtkgjpdadeakacaaDoor.Am
open Go Go.Proofs Nats
set_option linter.unusedVariables false
set_option linter.unusedSimpArgs false

def SpecShown (D : Orc) (f : Nat) : Prop := ∀ h (k : Kv) kp, (∀ h', Ext h h' → k (.bool true) h') → D f [] h k kp
theorem ok1 {x : Nat} (hx : x < B) : Ok [x] := fun y hy => by simp only [List.mem_singleton] at hy; omega
theorem ok2 {x y : Nat} (hx : x < B) (hy : y < B) : Ok [x, y] := fun z hz => by
  simp only [List.mem_cons, List.not_mem_nil, or_false] at hz
  rcases hz with rfl | rfl
  · exact hx
  · exact hy
theorem spec10 {D : Orc} (c : Cl10 D) (e : Env3 D) : SpecShown D 10 := by
  intro h k kp hk
  refine c _ _ _ ?_
  unfold F10
  refine e.of 4294967296 h _ _ (by decide) fun a h1 na => ⟨_, rfl, by trivial, by decide, ?_⟩
  rw [limbs_V] at na
  refine lit_rule [4294967295] rfl rfl (ok1 (by decide)) (by simp) fun p h2 np => ⟨by trivial, by decide, ?_⟩
  refine lit_rule [1] rfl rfl (ok1 (by decide)) (by simp) fun q h3 nq => ?_
  refine e.add _ _ _ _ _ _ _ (np.nr.ext nq.ext) nq.nr fun b h4 nb => ⟨_, _, rfl, by trivial, by decide, ?_⟩
  rw [ex_add] at nb ⊢
  refine lit_rule [4294967295] rfl rfl (ok1 (by decide)) (by simp) fun p2 h5 np2 => ⟨by trivial, by decide, ?_⟩
  refine lit_rule [4294967295] rfl rfl (ok1 (by decide)) (by simp) fun q2 h6 nq2 => ?_
  refine e.mul _ _ _ _ _ _ _ (np2.nr.ext nq2.ext) nq2.nr fun cc h7 nc => ⟨_, _, rfl, ?_⟩
  rw [ex_mul] at nc ⊢
  have na7 : Nr h7 a [0, 1] := (((((na.nr.ext np.ext).ext nq.ext).ext nb.ext).ext np2.ext).ext nq2.ext).ext nc.ext
  have hV : val [0, 1] = 4294967296 := by simp [val]
  refine e.text _ _ _ _ _ na7 (fun _ t h8 e8 ht => ⟨_, _, rfl, ?_⟩) (fun h => absurd right_V h)
  rw [hV, ex_text] at ht
  refine e.parse _ _ _ _ (by decide) fun x h9 nx => ⟨_, _, rfl, by trivial, by decide, ?_⟩
  rw [ex_read] at nx ⊢
  refine lit_rule [4294967295] rfl rfl (ok1 (by decide)) (by simp) fun q3 h10 nq3 => ?_
  have na10 : Nr h10 a [0, 1] := ((na7.ext e8).ext nx.ext).ext nq3.ext
  refine e.cmp _ _ _ _ _ _ _ na10 nq3.nr (fun _ => ⟨_, _, rfl, by trivial, by decide, by trivial, by decide, ?_⟩) (fun hb => ?_)
  rotate_left
  · exfalso
    have : both [0, 1] [4294967295] = true := by
      simp only [both, Bool.and_eq_true, decide_eq_true_eq]
      exact ⟨right_V, right_one (by decide) (by decide)⟩
    rw [this] at hb; cases hb
  refine lit_rule [0, 1] rfl rfl (ok2 (by decide) (by decide)) (by simp) fun s h11 ns => ?_
  have nb11 : Nr h11 b [0, 1] := (((((((nb.nr.ext np2.ext).ext nq2.ext).ext nc.ext).ext e8).ext nx.ext).ext nq3.ext).ext ns.ext)
  have nc11 : Nr h11 cc [1, 4294967294] := ((((nc.nr.ext e8).ext nx.ext).ext nq3.ext).ext ns.ext)
  have nx11 : Nr h11 x [0, 1] := (nx.nr.ext nq3.ext).ext ns.ext
  refine e.same _ _ _ _ _ _ _ (na10.ext ns.ext) ns.nr ⟨_, rfl, ?_⟩
  refine e.same _ _ _ _ _ _ _ nb11 (na10.ext ns.ext) ⟨_, rfl, by trivial, by decide, by trivial, by decide, ?_⟩
  refine lit_rule [1, 4294967294] rfl rfl (ok2 (by decide) (by decide)) (by simp) fun s2 h12 ns2 => ?_
  refine e.same _ _ _ _ _ _ _ (nc11.ext ns2.ext) ns2.nr ⟨_, rfl, ?_⟩
  refine e.same _ _ _ _ _ _ _ (nx11.ext ns2.ext) ((na10.ext ns.ext).ext ns2.ext) ⟨_, rfl, ?_⟩
  have ec : cmpI (val [0, 1] : Nat) (val [4294967295] : Nat) = 1 := by
    rw [hV]
    have : val [4294967295] = 4294967295 := by simp [val]
    rw [this]; decide
  have et : (t.toList == (ByteArray.mk #[52, 50, 57, 52, 57, 54, 55, 50, 57, 54]).toList) = true := by
    rw [toList_eq, toList_eq, ht]; rfl
  rw [ec, et]
  simp only [decide_true, cond_true, BEq.rfl]
  refine e.right _ _ _ _ _ ((na10.ext ns.ext).ext ns2.ext) ⟨_, rfl, ?_⟩
  rw [decide_eq_true right_V, cond_true]
  refine ⟨by trivial, by decide, ?_⟩
  refine lit_rule [0] rfl rfl (ok1 (by decide)) (by simp) fun s3 h13 ns3 => ?_
  refine e.right _ _ _ _ _ ns3.nr ⟨_, rfl, ?_⟩
  rw [not_right_0]
  refine hk _ ?_
  exact (((((((((((((na.ext.trans np.ext).trans nq.ext).trans nb.ext).trans np2.ext).trans nq2.ext).trans nc.ext).trans e8).trans nx.ext).trans nq3.ext).trans ns.ext).trans ns2.ext).trans ns3.ext))
end Go.Proofs.YtkgjpdadeakacaaDoor.Am

namespace Go.Proofs.YtkgjpdadeakacaaDoor.Am
open Go Go.Proofs Nats
set_option linter.unusedVariables false
set_option linter.unusedSimpArgs false

theorem limbs_short {n : Nat} (h : n < 2 ^ 64) : (limbs n).length ≤ 2 := by
  cases hn : (limbs n).length with
  | zero => omega
  | succ m =>
    have h1 := limbs_low hn
    have h2 : B ^ m < B ^ 2 := Nat.lt_of_le_of_lt h1 h
    have := (Nat.pow_lt_pow_iff_right (by decide)).mp h2
    omega
theorem Nb.later {h0 h h' : H} {s : Value} {l : List Nat} (r : Nb h0 h s l) (e : Ext h h') : Nb h0 h' s l := ⟨r.ext.trans e, r.buf.ext e, r.ok, r.small⟩
theorem spec3 {D : Orc} (c : Cl3 D) (e : Env3 D) (sh : SpecShown D 10) {a : Value} {l : List Nat} {n : Nat} {h : H} {k : Kv} {kp : Kp} (r : Nr h a l) (hn : n < 2 ^ 64) (hk : ∀ h', Ext h h' → k (.bool true) h') : D 3 [a, .int .u64 (n : Int)] h k kp := by
  refine c _ _ _ _ _ ?_
  unfold F3
  rw [intK_int]
  refine sh _ _ _ fun h1 e1 => ⟨_, rfl, ?_⟩
  have r1 := r.ext e1
  refine e.right _ _ _ _ _ r1 ⟨_, rfl, ?_⟩
  refine e.rright _ _ _ _ _ r1 ⟨_, rfl, ?_⟩
  refine e.of n _ _ _ hn fun b h2 nb => ⟨_, rfl, ?_⟩
  refine e.rof n _ _ _ hn fun b2 h3 nb2 => ⟨_, rfl, ?_⟩
  refine e.same _ _ _ _ _ _ _ (nb.nr.ext nb2.ext) nb2.nr ⟨_, rfl, ?_⟩
  refine e.spoil _ _ _ _ _ _ (nb.later nb2.ext) (by have := limbs_short hn; omega) fun h4 e4 => ⟨rfl, ?_⟩
  refine e.of n _ _ _ hn fun b3 h5 nb3 => ⟨_, rfl, ?_⟩
  refine e.rof n _ _ _ hn fun b4 h6 nb4 => ⟨_, rfl, ?_⟩
  refine e.same _ _ _ _ _ _ _ (nb3.nr.ext nb4.ext) nb4.nr ⟨_, rfl, ?_⟩
  simp only [decide_true, cond_true, BEq.rfl]
  exact hk _ (((e1.trans e4).trans nb3.ext).trans nb4.ext)
end Go.Proofs.YtkgjpdadeakacaaDoor.Am

namespace Go.Proofs.YtkgjpdadeakacaaDoor.Am
open Go Go.Proofs Nats
set_option linter.unusedVariables false
set_option linter.unusedSimpArgs false

theorem outcome_small (ok : Bool) (v : Nat) : (outcome ok v).1.length ≤ 64 := by
  unfold outcome
  cases ok with
  | false => simp
  | true =>
    simp only [if_true]
    split
    · assumption
    · simp
theorem Nr.drop {h : H} {s t : Value} {l : List Nat} (r : Nr h s l) (hs : Sep t s) : Nr (h.drop t) s l := ⟨r.row.drop hs, r.ok, r.small⟩
theorem Nr.pre {h : H} {s : Value} {l m : List Nat} (r : Nr h s (l ++ m)) : Nr h (cutTo s l.length) l := by
  have h1 := r.row.cut (n := l.length) (by rw [U_len]; simp)
  rw [U_take, List.take_left] at h1
  exact ⟨h1, fun x hx => r.ok x (by simp [hx]), by have := r.small; simp at this; omega⟩
theorem Nb.sep {h0 h : H} {s t : Value} {l m : List Nat} (r : Nb h0 h s l) (q : Nr h0 t m) : Sep s t ∧ Sep t s := r.buf.sep q.row
/-- Of a number's own block all else is apart: it may be spoilt. -/
theorem Nb.own {h0 h : H} {s : Value} {l : List Nat} (r : Nb h0 h s l) : Nb (h.drop s) h s l := ⟨Ext.drop h s, r.buf.self, r.ok, r.small⟩

theorem spec4 {D : Orc} (c : Cl4 D) (e : Env3 D) (sh : SpecShown D 10) {a b : Value} {l m : List Nat} {h : H} {k : Kv} {kp : Kp} (ra : Nr h a l) (rb : Nr h b m) (hl : l.length ≤ 1048576) (hm : m.length ≤ 1048576) (hk : ∀ h', k (.bool true) h') : D 4 [a, b] h k kp := by
  refine c _ _ _ _ _ ?_
  unfold F4
  refine sh _ _ _ fun h1 e1 => ⟨_, rfl, ?_⟩
  have a1 := ra.ext e1
  have b1 := rb.ext e1
  refine e.lent _ _ _ _ _ a1 hl fun p h4 np => ⟨_, rfl, ?_⟩
  have a4 := a1.ext np.ext
  have b4 := b1.ext np.ext
  refine e.lent _ _ _ _ _ b4 hm fun q h7 nq => ⟨_, rfl, ?_⟩
  have a7 := a4.ext nq.ext
  have b7 := b4.ext nq.ext
  have p7 := np.nr.ext nq.ext
  have q7 := nq.nr
  refine e.add _ _ _ _ _ _ _ p7.pre q7.pre fun s h10 ns => ⟨_, _, rfl, ?_⟩
  refine e.radd _ _ _ _ _ _ _ (a7.ext ns.ext) (b7.ext ns.ext) fun t h14 nt => ⟨_, _, rfl, ?_⟩
  have e14 := ns.ext.trans nt.ext
  refine e.mul _ _ _ _ _ _ _ (p7.ext e14).pre (q7.ext e14).pre fun x h18 nx => ⟨_, _, rfl, ?_⟩
  have e18 := e14.trans nx.ext
  refine e.rmul _ _ _ _ _ _ _ (a7.ext e18) (b7.ext e18) fun y h22 ny => ⟨_, _, rfl, ?_⟩
  have e22 := e18.trans ny.ext
  have rest : ∀ (x27 x28 : Int), D 14 [s, t] h22 (fun v33 h34 => ∃ t35 : Bool, v33 = (Value.bool t35) ∧ D 14 [x, y] h34 (fun v36 h37 => ∃ t38 : Bool, v36 = (Value.bool t38) ∧ D 16 [s] h37 (fun v39 h40 => v39 = (Value.tuple #[]) ∧ D 16 [x] h40 (fun v41 h42 => v41 = (Value.tuple #[]) ∧ D 18 [cutTo p l.length, cutTo q m.length] h42 (fun v43 h44 => ∃ v45 : Value, ∃ x46 : Int, v43 = (Value.tuple #[v45, (Value.int IntKind.i64 x46)]) ∧ D 20 [cutTo p l.length, cutTo q m.length] h44 (fun v47 h48 => ∃ v49 : Value, ∃ x50 : Int, v47 = (Value.tuple #[v49, (Value.int IntKind.i64 x50)]) ∧ D 14 [v45, t] h48 (fun v51 h52 => ∃ t53 : Bool, v51 = (Value.bool t53) ∧ D 14 [v49, y] h52 (fun v54 h55 => ∃ t56 : Bool, v54 = (Value.bool t56) ∧ D 24 [cutTo p l.length, a] h55 (fun v57 h58 => ∃ t59 : Bool, v57 = (Value.bool t59) ∧ D 24 [cutTo q m.length, b] h58 (fun v60 h61 => ∃ t62 : Bool, v60 = (Value.bool t62) ∧ cond true (
      cond t35 (cond t38 (cond t53 (cond t56 (cond t59 (cond t62 (
      cond ((outcome (both l m) (val l + val m)).2 == (outcome (both l m) (val l + val m)).2) (
      cond ((outcome (both l m) (val l * val m)).2 == (outcome (both l m) (val l * val m)).2) (
      cond (x27 == x27) (k (Value.bool (x28 == x28)) h61) (k (Value.bool false) h61)) (k (Value.bool false) h61)) (k (Value.bool false) h61)) (k (Value.bool false) h61)) (k (Value.bool false) h61)) (k (Value.bool false) h61)) (k (Value.bool false) h61)) (k (Value.bool false) h61)) (k (Value.bool false) h61)) (k (Value.bool false) h61)) kp) kp) kp) kp) kp) kp) kp) kp) kp) kp := by
    intro x27 x28
    have s22 := ns.later (nt.ext.trans (nx.ext.trans ny.ext))
    have t22 := nt.later (nx.ext.trans ny.ext)
    have x22 := nx.later ny.ext
    refine e.same _ _ _ _ _ _ _ s22.nr t22.nr ⟨_, rfl, ?_⟩
    refine e.same _ _ _ _ _ _ _ x22.nr ny.nr ⟨_, rfl, ?_⟩
    have sp := s22.sep p7
    have sq := s22.sep q7
    have sa := s22.sep a7
    have sb := s22.sep b7
    have st := t22.sep ns.nr
    have sx := x22.sep (ns.nr.ext nt.ext)
    have sy := ny.sep (ns.nr.ext (nt.ext.trans nx.ext))
    refine e.spoil _ _ _ _ _ _ s22.own (Nat.le_trans (outcome_small _ _) (by decide)) fun h40 e40 => ⟨rfl, ?_⟩
    have p40 := ((p7.ext e22).drop sp.1).ext e40
    have q40 := ((q7.ext e22).drop sq.1).ext e40
    have a40 := ((a7.ext e22).drop sa.1).ext e40
    have b40 := ((b7.ext e22).drop sb.1).ext e40
    have t40 := (t22.nr.drop st.2).ext e40
    have y40 := (ny.nr.drop sy.2).ext e40
    have xb : Nb (h40.drop x) h40 x (outcome (both l m) (val l * val m)).1 :=
      ⟨Ext.drop h40 x, ((x22.buf.drop sx.2).ext e40).self, x22.ok, x22.small⟩
    have xp := x22.sep (p7.ext e14)
    have xq := x22.sep (q7.ext e14)
    have xa := x22.sep (a7.ext e14)
    have xb' := x22.sep (b7.ext e14)
    have xt := x22.sep nt.nr
    have xy := ny.sep nx.nr
    refine e.spoil _ _ _ _ _ _ xb (Nat.le_trans (outcome_small _ _) (by decide)) fun h42 e42 => ⟨rfl, ?_⟩
    have p42 := (p40.drop xp.1).ext e42
    have q42 := (q40.drop xq.1).ext e42
    have a42 := (a40.drop xa.1).ext e42
    have b42 := (b40.drop xb'.1).ext e42
    have t42 := (t40.drop xt.1).ext e42
    have y42 := (y40.drop xy.2).ext e42
    refine e.add _ _ _ _ _ _ _ p42.pre q42.pre fun u h44 nu => ⟨_, _, rfl, ?_⟩
    refine e.mul _ _ _ _ _ _ _ (p42.ext nu.ext).pre (q42.ext nu.ext).pre fun v h48 nv => ⟨_, _, rfl, ?_⟩
    have e48 := nu.ext.trans nv.ext
    refine e.same _ _ _ _ _ _ _ (nu.nr.ext nv.ext) (t42.ext e48) ⟨_, rfl, ?_⟩
    refine e.same _ _ _ _ _ _ _ nv.nr (y42.ext e48) ⟨_, rfl, ?_⟩
    refine e.kept _ _ _ _ _ _ (p42.ext e48) (a42.ext e48) hl ⟨_, rfl, ?_⟩
    refine e.kept _ _ _ _ _ _ (q42.ext e48) (b42.ext e48) hm ⟨_, rfl, ?_⟩
    simp only [decide_true, cond_true, BEq.rfl]
    exact hk _
  refine e.cmp _ _ _ _ _ _ _ (p7.ext e22).pre (q7.ext e22).pre (fun hb => ⟨_, _, rfl, ?_⟩) (fun hb => ⟨_, _, rfl, ?_⟩)
  · refine e.rcmp _ _ _ _ _ _ _ (a7.ext e22) (b7.ext e22) (fun _ => ⟨_, _, rfl, ?_⟩) (fun hn => by rw [hb] at hn; cases hn)
    exact rest _ _
  · refine e.rcmp _ _ _ _ _ _ _ (a7.ext e22) (b7.ext e22) (fun hn => by rw [hb] at hn; cases hn) (fun _ => ⟨_, _, rfl, ?_⟩)
    exact rest _ _
theorem spec5 {D : Orc} (c : Cl5 D) (e : Env3 D) (sh : SpecShown D 10) {a : Value} {l : List Nat} {h : H} {k : Kv} {kp : Kp} (ra : Nr h a l) (hk : ∀ h', k (.bool true) h') : D 5 [a] h k kp := by
  refine c _ _ _ _ ?_
  unfold F5
  refine sh _ _ _ fun h1 e1 => ⟨_, rfl, ?_⟩
  have a1 := ra.ext e1
  refine e.text _ _ _ _ _ a1 (fun hr s h4 e4 hs => ⟨_, _, rfl, ?_⟩) (fun hr => ⟨_, _, rfl, ?_⟩)
  · refine e.rtext _ _ _ _ _ (a1.ext e4) (fun _ t h8 e8 ht => ⟨_, _, rfl, ?_⟩) (fun hn => absurd hr hn)
    have : s = t := bts_inj (hs.trans ht.symm)
    subst this
    simp only [BEq.rfl, cond_true]
    exact hk _
  · refine e.rtext _ _ _ _ _ a1 (fun hn => absurd hn hr) (fun _ => ⟨_, _, rfl, ?_⟩)
    simp only [BEq.rfl, cond_true]
    exact hk _
theorem spec6 {D : Orc} (c : Cl6 D) (e : Env3 D) (sh : SpecShown D 10) {s : ByteArray} {h : H} {k : Kv} {kp : Kp} (hs : s.size < 2 ^ 62) (hk : ∀ h', k (.bool true) h') : D 6 [.string s] h k kp := by
  refine c _ _ _ _ ?_
  unfold F6
  rw [strW_string]
  refine sh _ _ _ fun h1 e1 => ⟨_, rfl, ?_⟩
  refine e.parse _ _ _ _ hs fun a h5 na => ⟨_, _, rfl, ?_⟩
  refine e.rparse _ _ _ _ hs fun b h9 nb => ⟨_, _, rfl, ?_⟩
  refine e.same _ _ _ _ _ _ _ (na.nr.ext nb.ext) nb.nr ⟨_, rfl, ?_⟩
  simp only [decide_true, cond_true, BEq.rfl]
  exact hk _
end Go.Proofs.YtkgjpdadeakacaaDoor.Am

namespace Go.Proofs.YtkgjpdadeakacaaDoor.Am
open Go Go.Proofs Nats
set_option linter.unusedVariables false
set_option linter.unusedSimpArgs false

theorem ofNat_dig {d : Nat} (hd : d < 10) : (UInt8.ofNat (48 + d)).toNat = 48 + d := by
  rw [UInt8.toNat_ofNat']; omega
theorem isDig_ten {d : Nat} (hd : d < 10) : isDig (UInt8.ofNat (48 + d)) = true := by
  simp only [isDig, ofNat_dig hd, Bool.and_eq_true, decide_eq_true_eq]; omega
theorem rdig_facts (w : Nat) : (rdig w).all isDig = true ∧ dec (rdig w) = w ∧ (w ≠ 0 → ∃ x r, rdig w = x :: r ∧ x ≠ 48) := by
  induction w using Nat.strongRecOn with
  | _ w ih =>
    by_cases h0 : w = 0
    · subst h0; rw [rdig_zero]; exact ⟨rfl, rfl, fun h => absurd rfl h⟩
    · have hd : w % 10 < 10 := Nat.mod_lt _ (by decide)
      obtain ⟨i1, i2, i3⟩ := ih (w / 10) (Nat.div_lt_self (Nat.pos_of_ne_zero h0) (by decide))
      rw [rdig_pos h0]
      refine ⟨?_, ?_, fun _ => ?_⟩
      · rw [List.all_append, i1, List.all_cons, isDig_ten hd]; rfl
      · rw [dec_snoc, i2, ofNat_dig hd]; omega
      · by_cases h1 : w / 10 = 0
        · rw [h1, rdig_zero]
          refine ⟨_, [], rfl, fun hx => ?_⟩
          have := congrArg UInt8.toNat hx
          rw [ofNat_dig hd] at this
          have h48 : (48 : UInt8).toNat = 48 := rfl
          omega
        · obtain ⟨x, r, hr, hx⟩ := i3 h1
          exact ⟨x, r ++ [_], by rw [hr]; rfl, hx⟩
theorem textOk_txt (v : Nat) : textOk (txt v) = true ∧ dec (txt v) = v := by
  unfold txt
  by_cases h0 : v = 0
  · subst h0; exact ⟨by decide, by decide⟩
  · rw [if_neg h0]
    obtain ⟨h1, h2, h3⟩ := rdig_facts v
    obtain ⟨x, r, hr, hx⟩ := h3 h0
    refine ⟨?_, h2⟩
    rw [hr] at h1 ⊢
    simp only [textOk, h1, Bool.and_true, Bool.or_eq_true, Bool.not_eq_true', beq_eq_false_iff_ne]
    exact .inl hx
theorem rdig_dec : ∀ (n : Nat) (l : List UInt8), l.length = n → l.all isDig = true → (∀ x r, l = x :: r → x ≠ 48) → rdig (dec l) = l
  | 0, l, hn, _, _ => by
    obtain rfl := List.length_eq_zero_iff.mp hn
    exact rdig_zero
  | n + 1, l, hn, hd, hh => by
    rcases List.eq_nil_or_concat l with rfl | ⟨m, b, rfl⟩
    · simp at hn
    · simp only [List.concat_eq_append] at *
      have hm : m.length = n := by simpa using hn
      rw [List.all_append, Bool.and_eq_true] at hd
      have hb : isDig b = true := by simpa using hd.2
      simp only [isDig, Bool.and_eq_true, decide_eq_true_eq] at hb
      have ih := rdig_dec n m hm hd.1 fun x r h => hh x (r ++ [b]) (by rw [h]; rfl)
      rw [dec_snoc]
      have hne : 10 * dec m + (b.toNat - 48) ≠ 0 := by
        intro h0
        have h1 : dec m = 0 := by omega
        rw [h1, rdig_zero] at ih
        subst ih
        refine hh b [] rfl ?_
        apply UInt8.toNat_inj.mp
        have h48 : (48 : UInt8).toNat = 48 := rfl
        omega
      rw [rdig_pos hne]
      have e1 : (10 * dec m + (b.toNat - 48)) / 10 = dec m := by omega
      have e2 : (10 * dec m + (b.toNat - 48)) % 10 = b.toNat - 48 := by omega
      rw [e1, e2, ih]
      congr 2
      apply UInt8.toNat_inj.mp
      rw [ofNat_dig (by omega)]; omega
theorem txt_dec {l : List UInt8} (h : textOk l = true) : txt (dec l) = l := by
  cases l with
  | nil => simp [textOk] at h
  | cons x r =>
    simp only [textOk, Bool.and_eq_true, Bool.or_eq_true, Bool.not_eq_true', beq_eq_false_iff_ne] at h
    obtain ⟨h1, h2⟩ := h
    by_cases hx : x = 48
    · subst hx
      rcases h1 with h1 | h1
      · exact absurd rfl h1
      · have : r = [] := by simpa using h1
        subst this
        decide
    · have h3 := rdig_dec _ (x :: r) rfl h2 fun y s hy => by cases hy; exact hx
      unfold txt
      split
      · rename_i h0
        rw [h0, rdig_zero] at h3
        cases h3
      · exact h3
theorem right_limbs {v : Nat} (h : (limbs v).length ≤ 64) : right (limbs v) := ⟨h, by rw [val_limbs]⟩
theorem val_right {l : List Nat} (h : right l) : val l < B ^ 64 := by
  rw [h.2]
  have h1 := val_lt (ok_limbs (val l))
  have h2 : B ^ (limbs (val l)).length ≤ B ^ 64 := Nat.pow_le_pow_right (by decide) (by rw [← h.2]; exact h.1)
  exact Nat.lt_of_lt_of_le h1 h2
theorem txt_small {l : List Nat} (h : right l) : (txt (val l)).length ≤ 640 := by
  unfold txt
  split
  · simp
  · exact big_len (val_right h)
/-- A row's text, read. -/
theorem read_txt {l : List Nat} (h : right l) : readNat (txt (val l)) = (l, 0) := by
  unfold readNat
  rw [(textOk_txt (val l)).1, (textOk_txt (val l)).2, ← h.2]
  simp [h.1]
/-- What was read, written. -/
theorem txt_read {s : List UInt8} (h : (readNat s).2 = 0) : right (readNat s).1 ∧ txt (val (readNat s).1) = s := by
  unfold readNat at h ⊢
  cases hs : textOk s with
  | false => rw [hs] at h; simp at h
  | true =>
    rw [hs] at h
    simp only [if_true] at h ⊢
    by_cases h6 : (limbs (dec s)).length ≤ 64
    · rw [if_pos h6]
      refine ⟨right_limbs h6, ?_⟩
      show txt (val (limbs (dec s))) = s
      rw [val_limbs, txt_dec hs]
    · rw [if_neg h6] at h; simp at h
theorem read_err {s : List UInt8} (h : (readNat s).2 ≠ 0) : (readNat s).1 = [] := by
  unfold readNat at h ⊢
  cases hs : textOk s with
  | false => rfl
  | true =>
    rw [hs] at h
    simp only [if_true] at h ⊢
    by_cases h6 : (limbs (dec s)).length ≤ 64
    · rw [if_pos h6] at h; simp at h
    · rw [if_neg h6]

theorem spec7_back {D : Orc} (e : Env3 D) {s : ByteArray} {h : H} {k : Kv} {kp : Kp} (hs : s.size < 2 ^ 62) (hk : ∀ h', k (.bool true) h') : j7__11 D k kp (.string s) h := by
  unfold j7__11
  rw [strW_string]
  refine e.parse _ _ _ _ hs fun a h5 na => ⟨_, _, rfl, ?_⟩
  refine e.rparse _ _ _ _ hs fun b h9 nb => ⟨_, _, rfl, ?_⟩
  rw [cond_ne]
  refine ⟨fun h => absurd rfl h, fun _ => ?_⟩
  rw [cond_ne]
  refine ⟨fun hne => ?_, fun h0 => ?_⟩
  · rw [(na.nr.ext nb.ext).len, read_err hne]
    exact hk _
  · obtain ⟨h1, h2⟩ := txt_read h0
    refine e.text _ _ _ _ _ (na.nr.ext nb.ext) (fun hr t h10 e10 ht => ⟨_, _, rfl, ?_⟩) (fun hn => absurd h1 hn)
    have : t = s := bts_inj (ht.trans h2)
    subst this
    simp only [BEq.rfl, cond_true]
    refine e.right _ _ _ _ _ ((na.nr.ext nb.ext).ext e10) ⟨_, rfl, ?_⟩
    rw [decide_eq_true h1]
    exact hk _
theorem spec7 {D : Orc} (c : Cl7 D) (e : Env3 D) (sh : SpecShown D 10) {a : Value} {l : List Nat} {s : ByteArray} {h : H} {k : Kv} {kp : Kp} (ra : Nr h a l) (hs : s.size < 2 ^ 62) (hk : ∀ h', k (.bool true) h') : D 7 [a, .string s] h k kp := by
  refine c _ _ _ _ _ ?_
  unfold F7
  rw [strW_string]
  refine sh _ _ _ fun h1 e1 => ⟨_, rfl, ?_⟩
  have a1 := ra.ext e1
  refine e.text _ _ _ _ _ a1 (fun hr t h4 e4 ht => ⟨_, _, rfl, ?_⟩) (fun hr => ⟨_, _, rfl, ?_⟩)
  · refine e.rright _ _ _ _ _ (a1.ext e4) ⟨_, rfl, ?_⟩
    rw [decide_eq_true hr]
    show j7__5 D k kp a (.string s) (.string t) (.int .i64 0) (.bool false) _
    unfold j7__5
    simp only [strW_string, intK_int, boolW_bool, cond_false, BEq.rfl, cond_true]
    refine e.parse _ _ _ _ (by rw [← bts_len, ht]; have := txt_small hr; omega) fun b h9 nb => ⟨_, _, rfl, ?_⟩
    rw [ht, read_txt hr] at nb ⊢
    refine e.same _ _ _ _ _ _ _ ((a1.ext e4).ext nb.ext) nb.nr ⟨_, rfl, ?_⟩
    show j7__10 D k kp (.string s) (.bool (!decide (l = l))) _
    unfold j7__10
    simp only [strW_string, boolW_bool, decide_true, Bool.not_true, cond_false]
    exact spec7_back e hs hk
  · refine e.rright _ _ _ _ _ a1 ⟨_, rfl, ?_⟩
    rw [decide_eq_false hr]
    show j7__5 D k kp a (.string s) _ (.int .i64 10) (.bool false) _
    unfold j7__5
    simp only [strW_string, intK_int, boolW_bool, cond_false]
    show j7__11 D k kp (.string s) _
    exact spec7_back e hs hk
end Go.Proofs.YtkgjpdadeakacaaDoor.Am

namespace Go.Proofs.YtkgjpdadeakacaaDoor.Am
open Go Go.Proofs Nats
set_option linter.unusedVariables false
set_option linter.unusedSimpArgs false

theorem read_tens {v d : Nat} (hv : v ≠ 0) (hd : d < 10) : readNat (txt v ++ [UInt8.ofNat (48 + d)]) = outcome true (v * 10 + d) := by
  obtain ⟨h1, h2, h3⟩ := rdig_facts v
  obtain ⟨x, r, hr, hx⟩ := h3 hv
  have e : txt v = rdig v := by unfold txt; rw [if_neg hv]
  have hok : textOk (txt v ++ [UInt8.ofNat (48 + d)]) = true := by
    rw [e]
    rw [hr] at h1 ⊢
    have h4 : (x :: (r ++ [UInt8.ofNat (48 + d)])).all isDig = true := by
      have : x :: (r ++ [UInt8.ofNat (48 + d)]) = (x :: r) ++ [UInt8.ofNat (48 + d)] := rfl
      rw [this, List.all_append, h1, List.all_cons, isDig_ten hd]; rfl
    show textOk (x :: (r ++ [UInt8.ofNat (48 + d)])) = true
    simp only [textOk, h4, Bool.and_true, Bool.or_eq_true, Bool.not_eq_true', beq_eq_false_iff_ne]
    exact .inl hx
  have hdec : dec (txt v ++ [UInt8.ofNat (48 + d)]) = v * 10 + d := by
    rw [dec_snoc, e, h2, ofNat_dig hd]; omega
  unfold readNat outcome
  rw [hok, hdec]
  simp
/-- A literal of one byte as a string. -/
theorem byte_rule {h : H} {v : Value} {x : UInt8} (hv : v = .int .u8 (x.toNat : Int)) {K : ByteArray → H → Prop} (hK : ∀ t h', Ext h h' → bts t = [x] → K t h') :
    newSl h 1 [v] (fun s18 h19 => bsW h19 s18 (fun s20 => K s20 h19)) := by
  subst hv
  intro b hb
  refine bs_rule (l := [x]) (Row.cells set_here rfl) fun t ht => ?_
  exact hK t _ (Ext.new hb) ht
theorem tens_core {D : Orc} (e : Env3 D) {a : Value} {l : List Nat} {x : Int} {h : H} {k : Kv} {kp : Kp} (ra : Nr h a l) (hr : right l) (hne : l ≠ []) (h0 : 0 ≤ x) (h1 : x ≤ 9223372036854775807) (hk : ∀ h', k (.bool true) h') : j9__7 D k kp a (.int .i64 x) h := by
  unfold j9__7
  rw [intK_int]
  refine ⟨by decide, ?_⟩
  obtain ⟨d, hd⟩ : ∃ d : Nat, Int.tmod x 10 = d := Int.eq_ofNat_of_zero_le (Int.tmod_nonneg _ h0)
  have hd10 : d < 10 := by
    have := Int.tmod_lt_of_pos x (show (0 : Int) < 10 by decide)
    omega
  rw [hd]
  have hv : val l ≠ 0 := by
    intro hz
    have := hr.2
    rw [hz, limbs_zero] at this
    exact hne this
  refine e.text _ _ _ _ _ ra (fun _ t h2 e2 ht => ⟨_, _, rfl, by trivial, by decide, ?_⟩) (fun hn => absurd hr hn)
  refine byte_rule (x := UInt8.ofNat (48 + d)) (by
    rw [i64_id (by omega) (by omega), IntWalk.u8_in _ (by omega), ofNat_dig hd10]; simp) fun u h3 e3 hu => ?_
  have hsz : t.size ≤ 640 := by rw [← bts_len, ht]; exact txt_small hr
  have usz : u.size = 1 := by rw [← bts_len, hu]; rfl
  refine ⟨by omega, ?_⟩
  have hb : bts (t ++ u) = txt (val l) ++ [UInt8.ofNat (48 + d)] := by rw [bts_append, ht, hu]
  refine e.parse _ _ _ _ (by rw [← bts_len, hb, List.length_append]; have := txt_small hr; simp; omega) fun b h4 nb => ⟨_, _, rfl, by trivial, by decide, ?_⟩
  rw [hb, read_tens hv hd10] at nb ⊢
  refine lit_rule [10] rfl rfl (ok1 (by decide)) (by simp) fun q h5 nq => ?_
  have r5 := ((ra.ext e2).ext e3).ext (nb.ext.trans nq.ext)
  refine e.mul _ _ _ _ _ _ _ r5 nq.nr fun c h6 nc => ⟨_, _, rfl, ?_⟩
  have hboth : both l [10] = true := by
    simp only [both, Bool.and_eq_true, decide_eq_true_eq]
    exact ⟨hr, right_one (by decide) (by decide)⟩
  have hval : val [10] = 10 := by simp [val]
  rw [hboth, hval] at nc ⊢
  have hz : ((0 : Int) != 0) = false := rfl
  rw [hz, cond_false]
  by_cases h64 : (limbs (val l * 10)).length ≤ 64
  · have ho : outcome true (val l * 10) = (limbs (val l * 10), 0) := by simp [outcome, h64]
    rw [ho] at nc ⊢
    rw [hz, cond_false]
    have hw : IntKind.wrap .u64 (d : Int) = (d : Int) := u64_id (by omega) (by omega)
    rw [hw]
    refine e.of d _ _ _ (by omega) fun f h7 nf => ⟨_, rfl, ?_⟩
    refine e.add _ _ _ _ _ _ _ (nc.nr.ext nf.ext) nf.nr fun g h8 ng => ⟨_, _, rfl, ?_⟩
    have hb2 : both (limbs (val l * 10)) (limbs d) = true := by
      simp only [both, Bool.and_eq_true, decide_eq_true_eq]
      exact ⟨right_limbs h64, right_limbs (by have := limbs_short (n := d) (by omega); omega)⟩
    simp only [hb2, val_limbs] at ng ⊢
    refine e.same _ _ _ _ _ _ _ ((nb.nr.ext (nq.ext.trans nc.ext)).ext (nf.ext.trans ng.ext)) ng.nr ⟨_, rfl, ?_⟩
    simp only [BEq.rfl, cond_true, decide_true]
    exact hk _
  · have ho : outcome true (val l * 10) = ([], 2) := by simp [outcome, h64]
    rw [ho]
    show k _ _
    have : outcome true (val l * 10 + d) = ([], 2) := by
      have := limbs_mono (show val l * 10 ≤ val l * 10 + d by omega)
      have h65 : ¬ (limbs (val l * 10 + d)).length ≤ 64 := by omega
      simp [outcome, h65]
    rw [this]
    exact hk _
theorem spec9 {D : Orc} (c : Cl9 D) (e : Env3 D) (sh : SpecShown D 10) {a : Value} {l : List Nat} {x : Int} {h : H} {k : Kv} {kp : Kp} (ra : Nr h a l) (h0 : -9223372036854775808 ≤ x) (h1 : x ≤ 9223372036854775807) (hk : ∀ h', k (.bool true) h') : D 9 [a, .int .i64 x] h k kp := by
  refine c _ _ _ _ _ ?_
  unfold F9
  rw [intK_int]
  refine sh _ _ _ fun h2 e2 => ⟨_, rfl, ?_⟩
  have r2 := ra.ext e2
  refine e.rright _ _ _ _ _ r2 ⟨_, rfl, ?_⟩
  simp only [Bool.not_true, Bool.not_false, cond_true]
  cases hr : decide (right l) with
  | false =>
    simp only [Bool.not_false, Bool.not_true, cond_false]
    unfold j9__4
    simp only [intK_int, boolW_bool, cond_true]
    exact hk _
  | true =>
    simp only [Bool.not_false, Bool.not_true, cond_true]
    rw [r2.len]
    unfold j9__4
    simp only [intK_int, boolW_bool]
    rw [cond_eq]
    refine ⟨fun _ => hk _, fun hn => ?_⟩
    have hne : l ≠ [] := fun h => hn (by rw [h]; rfl)
    have hr' : right l := by simpa using hr
    rw [cond_dec]
    refine ⟨fun hlt => ?_, fun hge => ?_⟩
    · have e1 : IntKind.wrap .i64 (x + 1) = x + 1 := i64_id (by omega) (by omega)
      have e2 : IntKind.wrap .i64 (0 - (x + 1)) = 0 - (x + 1) := i64_id (by omega) (by omega)
      rw [e1, e2]
      exact tens_core e r2 hr' hne (by omega) (by omega) hk
    · exact tens_core e r2 hr' hne (by omega) h1 hk
end Go.Proofs.YtkgjpdadeakacaaDoor.Am

namespace Go.Proofs.YtkgjpdadeakacaaDoor.Am
open Go Go.Proofs Nats
set_option linter.unusedVariables false
set_option linter.unusedSimpArgs false

theorem out_ok {v : Nat} : (outcome true v).2 = 0 ↔ (limbs v).length ≤ 64 := by
  unfold outcome
  by_cases h : (limbs v).length ≤ 64
  · simp [h]
  · simp [h]
theorem out_row {v : Nat} (h : (outcome true v).2 = 0) : (outcome true v).1 = limbs v ∧ right (outcome true v).1 ∧ val (outcome true v).1 = v := by
  have h6 := out_ok.mp h
  have e : (outcome true v).1 = limbs v := by unfold outcome; simp [h6]
  rw [e]
  exact ⟨rfl, right_limbs h6, val_limbs v⟩
theorem both_right {l m : List Nat} (hl : right l) (hm : right m) : both l m = true := by
  simp only [both, Bool.and_eq_true, decide_eq_true_eq]; exact ⟨hl, hm⟩
theorem cmpI_neg (x y : Int) : cmpI x y = 0 - cmpI y x := by
  unfold cmpI
  by_cases h1 : x < y
  · rw [if_pos h1, if_neg (by omega), if_pos h1]; rfl
  · by_cases h2 : y < x
    · rw [if_neg h1, if_pos h2, if_pos h2]; rfl
    · rw [if_neg h1, if_neg h2, if_neg h2, if_neg h1]; rfl
theorem cmpI_range (x y : Int) : -1 ≤ cmpI x y ∧ cmpI x y ≤ 1 := by
  unfold cmpI
  split
  · omega
  · split <;> omega
theorem cmpI_add (x y z : Nat) : cmpI ((x + z : Nat) : Int) ((y + z : Nat) : Int) = cmpI x y := by
  have h1 : ((((x + z : Nat) : Int) < ((y + z : Nat) : Int))) = ((x : Int) < (y : Int)) := by apply propext; omega
  have h2 : ((((x + z : Nat) : Int) > ((y + z : Nat) : Int))) = ((x : Int) > (y : Int)) := by apply propext; omega
  simp only [cmpI, h1, h2]
theorem cmpI_mul {x y z : Nat} (hz : 0 < z) : cmpI ((x * z : Nat) : Int) ((y * z : Nat) : Int) = cmpI x y := by
  have h1 : ((((x * z : Nat) : Int) < ((y * z : Nat) : Int))) = ((x : Int) < (y : Int)) := by
    apply propext
    rw [Int.ofNat_lt, Int.ofNat_lt]
    exact Nat.mul_lt_mul_right hz
  have h2 : ((((x * z : Nat) : Int) > ((y * z : Nat) : Int))) = ((x : Int) > (y : Int)) := by
    apply propext
    show (((y * z : Nat) : Int) < ((x * z : Nat) : Int)) ↔ ((y : Int) < (x : Int))
    rw [Int.ofNat_lt, Int.ofNat_lt]
    exact Nat.mul_lt_mul_right hz
  simp only [cmpI, h1, h2]

theorem Env3.add2 {D : Orc} (e : Env3 D) {a b : Value} {l m : List Nat} {h : H} {k : Kv} {kp : Kp} (ra : Nr h a l) (rb : Nr h b m) (hb : both l m = true) {v : Nat} (hv : val l + val m = v)
    (hk : ∀ s h', Nb h h' s (outcome true v).1 → k (.tuple #[s, .int .i64 (outcome true v).2]) h') : D 18 [a, b] h k kp := by
  subst hv
  refine e.add _ _ _ _ _ _ _ ra rb fun s h' ns => ?_
  rw [hb] at ns ⊢
  exact hk s h' ns
theorem Env3.mul2 {D : Orc} (e : Env3 D) {a b : Value} {l m : List Nat} {h : H} {k : Kv} {kp : Kp} (ra : Nr h a l) (rb : Nr h b m) (hb : both l m = true) {v : Nat} (hv : val l * val m = v)
    (hk : ∀ s h', Nb h h' s (outcome true v).1 → k (.tuple #[s, .int .i64 (outcome true v).2]) h') : D 20 [a, b] h k kp := by
  subst hv
  refine e.mul _ _ _ _ _ _ _ ra rb fun s h' ns => ?_
  rw [hb] at ns ⊢
  exact hk s h' ns
theorem laws_40 {D : Orc} (e : Env3 D) {l m n : List Nat} (hl : right l) (hm : right m) (hn : right n) {k : Kv} {kp : Kp} (hk : ∀ h', k (.bool true) h') {r : Value} {h : H} (rr : Nr h r (outcome true (val l * val n)).1) {v : Value} (rv : Nr h v (outcome true (val m * val n)).1) (t : Bool)
    (ht : t = true → (outcome true (val l * val n)).2 = 0 ∧ (outcome true (val m * val n)).2 = 0 ∧ n ≠ []) : j8__40 D k kp r (.int .i64 (cmpI (val l) (val m))) v (.bool t) h := by
  unfold j8__40
  simp only [intK_int, boolW_bool]
  cases t with
  | false => unfold j8__43; exact hk _
  | true =>
    obtain ⟨h1, h2, h3⟩ := ht rfl
    obtain ⟨_, r1, v1⟩ := out_row h1
    obtain ⟨_, r2, v2⟩ := out_row h2
    refine e.cmp _ _ _ _ _ _ _ rr rv (fun _ => ⟨_, _, rfl, ?_⟩) (fun hb => by rw [both_right r1 r2] at hb; cases hb)
    have hz : 0 < val n := by
      refine Nat.pos_of_ne_zero fun h0 => h3 ?_
      have := hn.2
      rw [h0, limbs_zero] at this; exact this
    rw [v1, v2, cmpI_mul hz]
    show j8__42 D k kp (.bool (cmpI (val l) (val m) != cmpI (val l) (val m))) h
    unfold j8__42 j8__43
    simp only [boolW_bool, bne_self_eq_false, cond_false]
    exact hk _
theorem laws_38 {D : Orc} (e : Env3 D) {b c : Value} {l m n : List Nat} (hl : right l) (hm : right m) (hn : right n) {k : Kv} {kp : Kp} (hk : ∀ h', k (.bool true) h') {r : Value} {h : H} (rb : Nr h b m) (rc : Nr h c n) (rr : Nr h r (outcome true (val l * val n)).1) :
    j8__38 D k kp b c r (.int .i64 (outcome true (val l * val n)).2) (.int .i64 (cmpI (val l) (val m))) h := by
  unfold j8__38
  simp only [intK_int]
  refine e.mul2 rb rc (both_right hm hn) (rfl) fun v h1 nv => ⟨_, _, rfl, ?_⟩
  have rr1 := rr.ext nv.ext
  rw [cond_eq]
  refine ⟨fun h2 => ?_, fun h2 => laws_40 e hl hm hn hk rr1 nv.nr false (fun h => by cases h)⟩
  rw [cond_eq]
  refine ⟨fun h3 => ?_, fun h3 => laws_40 e hl hm hn hk rr1 nv.nr false (fun h => by cases h)⟩
  rw [(rc.ext nv.ext).len]
  refine laws_40 e hl hm hn hk rr1 nv.nr _ fun h4 => ⟨h2, h3, fun h5 => ?_⟩
  rw [h5] at h4; simp at h4
theorem laws_32 {D : Orc} (e : Env3 D) {a b c : Value} {l m n : List Nat} (hl : right l) (hm : right m) (hn : right n) {k : Kv} {kp : Kp} (hk : ∀ h', k (.bool true) h') {h : H} (ra : Nr h a l) (rb : Nr h b m) (rc : Nr h c n) {bc r : Value} (rbc : Nr h bc (outcome true (val m + val n)).1) (rr : Nr h r (outcome true (val l * val n)).1) :
    j8__32 D k kp a b c bc (.int .i64 (outcome true (val m + val n)).2) r (.int .i64 (outcome true (val l * val n)).2) (.int .i64 (cmpI (val l) (val m))) (.bool false) h := by
  unfold j8__32
  simp only [intK_int, boolW_bool, cond_false]
  refine e.add2 ra rc (both_right hl hn) (rfl) fun ac h1 nac => ⟨_, _, rfl, ?_⟩
  have rb1 := rb.ext nac.ext
  have rc1 := rc.ext nac.ext
  have rr1 := rr.ext nac.ext
  have rbc1 := rbc.ext nac.ext
  have go : ∀ t : Bool, (t = true → (outcome true (val l + val n)).2 = 0 ∧ (outcome true (val m + val n)).2 = 0) → j8__35 D k kp b c bc r (.int .i64 (outcome true (val l * val n)).2) (.int .i64 (cmpI (val l) (val m))) ac (.bool t) h1 := by
    intro t ht
    unfold j8__35
    simp only [intK_int, boolW_bool]
    cases t with
    | false => exact laws_38 e hl hm hn hk rb1 rc1 rr1
    | true =>
      obtain ⟨h2, h3⟩ := ht rfl
      obtain ⟨_, r1, v1⟩ := out_row h2
      obtain ⟨_, r2, v2⟩ := out_row h3
      refine e.cmp _ _ _ _ _ _ _ nac.nr rbc1 (fun _ => ⟨_, _, rfl, ?_⟩) (fun hb => by rw [both_right r1 r2] at hb; cases hb)
      rw [v1, v2, cmpI_add]
      show j8__37 D k kp b c r _ _ (.bool (cmpI (val l) (val m) != cmpI (val l) (val m))) h1
      unfold j8__37
      simp only [intK_int, boolW_bool, bne_self_eq_false, cond_false]
      exact laws_38 e hl hm hn hk rb1 rc1 rr1
  rw [cond_eq]
  refine ⟨fun h2 => go _ fun h3 => ⟨h2, by simpa using h3⟩, fun h2 => go false fun h => by cases h⟩
theorem laws_29 {D : Orc} (e : Env3 D) {a b c : Value} {l m n : List Nat} (hl : right l) (hm : right m) (hn : right n) {k : Kv} {kp : Kp} (hk : ∀ h', k (.bool true) h') {h : H} (ra : Nr h a l) (rb : Nr h b m) (rc : Nr h c n) {bc r : Value} (rbc : Nr h bc (outcome true (val m + val n)).1) (rr : Nr h r (outcome true (val l * val n)).1) :
    j8__29 D k kp a b c bc (.int .i64 (outcome true (val m + val n)).2) r (.int .i64 (outcome true (val l * val n)).2) h := by
  unfold j8__29
  simp only [intK_int]
  refine e.cmp _ _ _ _ _ _ _ ra rb (fun _ => ⟨_, _, rfl, ?_⟩) (fun hb => by rw [both_right hl hm] at hb; cases hb)
  refine e.cmp _ _ _ _ _ _ _ rb ra (fun _ => ⟨_, _, rfl, ?_⟩) (fun hb => by rw [both_right hm hl] at hb; cases hb)
  have hr := cmpI_range (val m) (val l)
  rw [i64_id (by omega) (by omega), ← cmpI_neg]
  simp only [bne_self_eq_false, Bool.not_false, cond_true]
  exact laws_32 e hl hm hn hk ra rb rc rbc rr
theorem laws_28 {D : Orc} (e : Env3 D) {a b c : Value} {l m n : List Nat} (hl : right l) (hm : right m) (hn : right n) {k : Kv} {kp : Kp} (hk : ∀ h', k (.bool true) h') {h : H} (ra : Nr h a l) (rb : Nr h b m) (rc : Nr h c n) {bc r : Value} (rbc : Nr h bc (outcome true (val m + val n)).1) (rr : Nr h r (outcome true (val l * val n)).1) :
    j8__28 D k kp a b c bc (.int .i64 (outcome true (val m + val n)).2) r (.int .i64 (outcome true (val l * val n)).2) (.bool false) h := by
  unfold j8__28
  simp only [intK_int, boolW_bool, cond_false]
  exact laws_29 e hl hm hn hk ra rb rc rbc rr
theorem laws_22 {D : Orc} (e : Env3 D) {a b c : Value} {l m n : List Nat} (hl : right l) (hm : right m) (hn : right n) {k : Kv} {kp : Kp} (hk : ∀ h', k (.bool true) h') {h : H} (ra : Nr h a l) (rb : Nr h b m) (rc : Nr h c n) {bc p r : Value} (rbc : Nr h bc (outcome true (val m + val n)).1) (rp : Nr h p (outcome true (val l * val m)).1) (rr : Nr h r (outcome true (val l * val n)).1)
    (h3 : (outcome true (val m + val n)).2 = 0) :
    j8__22 D k kp a b c bc (.int .i64 (outcome true (val m + val n)).2) p (.int .i64 (outcome true (val l * val m)).2) r (.int .i64 (outcome true (val l * val n)).2) (.bool false) h := by
  unfold j8__22
  simp only [intK_int, boolW_bool, cond_false]
  obtain ⟨_, r3, v3⟩ := out_row h3
  refine e.mul2 ra rbc (both_right hl r3) (by rw [v3]) fun z h1 nz => ⟨_, _, rfl, ?_⟩
  have ra1 := ra.ext nz.ext
  have rb1 := rb.ext nz.ext
  have rc1 := rc.ext nz.ext
  have rbc1 := rbc.ext nz.ext
  have rp1 := rp.ext nz.ext
  have rr1 := rr.ext nz.ext
  have go : ∀ t : Bool, (t = true → (outcome true (val l * val m)).2 = 0 ∧ (outcome true (val l * val n)).2 = 0 ∧ (outcome true (val l * (val m + val n))).2 = 0) → j8__25 D k kp a b c bc (.int .i64 (outcome true (val m + val n)).2) p r (.int .i64 (outcome true (val l * val n)).2) z (.bool t) h1 := by
    intro t ht
    unfold j8__25
    simp only [intK_int, boolW_bool]
    cases t with
    | false => exact laws_29 e hl hm hn hk ra1 rb1 rc1 rbc1 rr1
    | true =>
      obtain ⟨g1, g2, g4⟩ := ht rfl
      obtain ⟨_, r1, v1⟩ := out_row g1
      obtain ⟨_, r2, v2⟩ := out_row g2
      refine e.add2 rp1 rr1 (both_right r1 r2) (by rw [v1, v2, ← Nat.mul_add]) fun w h2 nw => ⟨_, _, rfl, ?_⟩
      refine e.same _ _ _ _ _ _ _ (nz.nr.ext nw.ext) nw.nr ⟨_, rfl, ?_⟩
      rw [g4]
      simp only [decide_true, Bool.not_true]
      exact laws_28 e hl hm hn hk (ra1.ext nw.ext) (rb1.ext nw.ext) (rc1.ext nw.ext) (rbc1.ext nw.ext) (rr1.ext nw.ext)
  rw [cond_eq]
  refine ⟨fun g1 => ?_, fun _ => go false fun h => by cases h⟩
  rw [cond_eq]
  refine ⟨fun g2 => go _ fun g4 => ⟨g1, g2, by simpa using g4⟩, fun _ => go false fun h => by cases h⟩
theorem laws_18 {D : Orc} (e : Env3 D) {a b c : Value} {l m n : List Nat} (hl : right l) (hm : right m) (hn : right n) {k : Kv} {kp : Kp} (hk : ∀ h', k (.bool true) h') {h : H} (ra : Nr h a l) (rb : Nr h b m) (rc : Nr h c n) {ab bc p r : Value} (rab : Nr h ab (outcome true (val l + val m)).1) (rbc : Nr h bc (outcome true (val m + val n)).1) (rp : Nr h p (outcome true (val l * val m)).1) (rr : Nr h r (outcome true (val l * val n)).1) (t : Bool)
    (ht : t = true → (outcome true (val l + val m)).2 = 0 ∧ (outcome true (val m + val n)).2 = 0) :
    j8__18 D k kp a b c ab bc (.int .i64 (outcome true (val m + val n)).2) p (.int .i64 (outcome true (val l * val m)).2) r (.int .i64 (outcome true (val l * val n)).2) (.bool t) h := by
  unfold j8__18
  simp only [intK_int, boolW_bool]
  cases t with
  | false => exact laws_29 e hl hm hn hk ra rb rc rbc rr
  | true =>
    obtain ⟨g1, g2⟩ := ht rfl
    obtain ⟨_, r1, v1⟩ := out_row g1
    obtain ⟨_, r2, v2⟩ := out_row g2
    refine e.add2 rab rc (both_right r1 hn) (by rw [v1]) fun x h1 nx => ⟨_, _, rfl, ?_⟩
    refine e.add2 (ra.ext nx.ext) (rbc.ext nx.ext) (both_right hl r2) (by rw [v2, ← Nat.add_assoc]) fun y h2 ny => ⟨_, _, rfl, ?_⟩
    refine e.same _ _ _ _ _ _ _ (nx.nr.ext ny.ext) ny.nr ⟨_, rfl, ?_⟩
    simp only [bne_self_eq_false, Bool.not_false, cond_true, decide_true, Bool.not_true]
    have e2 := nx.ext.trans ny.ext
    exact laws_22 e hl hm hn hk (ra.ext e2) (rb.ext e2) (rc.ext e2) (rbc.ext e2) (rp.ext e2) (rr.ext e2) g2
theorem laws_4 {D : Orc} (e : Env3 D) {a b c : Value} {l m n : List Nat} (hl : right l) (hm : right m) (hn : right n) {k : Kv} {kp : Kp} (hk : ∀ h', k (.bool true) h') {h : H} (ra : Nr h a l) (rb : Nr h b m) (rc : Nr h c n) : j8__4 D k kp a b c (.bool true) (.bool false) h := by
  unfold j8__4
  simp only [boolW_bool, cond_false]
  refine e.add2 ra rb (both_right hl hm) (rfl) fun ab h1 nab => ⟨_, _, rfl, ?_⟩
  refine e.add2 (rb.ext nab.ext) (ra.ext nab.ext) (both_right hm hl) (by rw [Nat.add_comm (val m) (val l)]) fun ba h2 nba => ⟨_, _, rfl, ?_⟩
  have e2 := nab.ext.trans nba.ext
  refine e.add2 (rb.ext e2) (rc.ext e2) (both_right hm hn) (rfl) fun bc h3 nbc => ⟨_, _, rfl, ?_⟩
  have e3 := e2.trans nbc.ext
  refine e.mul2 (ra.ext e3) (rb.ext e3) (both_right hl hm) (rfl) fun p h4 np => ⟨_, _, rfl, ?_⟩
  have e4 := e3.trans np.ext
  refine e.mul2 (rb.ext e4) (ra.ext e4) (both_right hm hl) (by rw [Nat.mul_comm (val m) (val l)]) fun q h5 nq => ⟨_, _, rfl, ?_⟩
  have e5 := e4.trans nq.ext
  refine e.mul2 (ra.ext e5) (rc.ext e5) (both_right hl hn) (rfl) fun r h6 nr => ⟨_, _, rfl, ?_⟩
  have e6 := e5.trans nr.ext
  simp only [bne_self_eq_false, Bool.not_false, cond_true]
  unfold j8__12
  simp only [intK_int, boolW_bool, cond_false]
  have rab := nab.nr.ext (nba.ext.trans (nbc.ext.trans (np.ext.trans (nq.ext.trans nr.ext))))
  have rba := nba.nr.ext (nbc.ext.trans (np.ext.trans (nq.ext.trans nr.ext)))
  have rbc := nbc.nr.ext (np.ext.trans (nq.ext.trans nr.ext))
  have rp := np.nr.ext (nq.ext.trans nr.ext)
  have rq := nq.nr.ext nr.ext
  refine e.same _ _ _ _ _ _ _ rab rba ⟨_, rfl, ?_⟩
  refine e.same _ _ _ _ _ _ _ rp rq ⟨_, rfl, ?_⟩
  simp only [decide_true, Bool.not_true, Bool.not_false, cond_true]
  unfold j8__16
  simp only [intK_int, boolW_bool, cond_false]
  rw [cond_eq]
  refine ⟨fun g1 => ?_, fun _ => ?_⟩
  · exact laws_18 e hl hm hn hk (ra.ext e6) (rb.ext e6) (rc.ext e6) rab rbc rp nr.nr _ fun g2 => ⟨g1, by simpa using g2⟩
  · exact laws_18 e hl hm hn hk (ra.ext e6) (rb.ext e6) (rc.ext e6) rab rbc rp nr.nr false fun h => by cases h
theorem laws_3no {D : Orc} {a b c : Value} {k : Kv} {kp : Kp} (hk : ∀ h', k (.bool true) h') {h : H} : j8__3 D k kp a b c (.bool true) (.bool false) h := by
  unfold j8__3
  simp only [boolW_bool, Bool.not_true, Bool.not_false, cond_true]
  unfold j8__4
  simp only [boolW_bool, cond_true]
  exact hk _
theorem spec8 {D : Orc} (cl : Cl8 D) (e : Env3 D) (sh : SpecShown D 10) {a b c : Value} {l m n : List Nat} {h : H} {k : Kv} {kp : Kp} (ra : Nr h a l) (rb : Nr h b m) (rc : Nr h c n) (hk : ∀ h', k (.bool true) h') : D 8 [a, b, c] h k kp := by
  refine cl _ _ _ _ _ _ ?_
  unfold F8
  refine sh _ _ _ fun h1 e1 => ⟨_, rfl, ?_⟩
  have a1 := ra.ext e1
  have b1 := rb.ext e1
  have c1 := rc.ext e1
  refine e.rright _ _ _ _ _ a1 ⟨_, rfl, ?_⟩
  cases hl : decide (right l) with
  | false => exact laws_3no hk
  | true =>
    refine e.rright _ _ _ _ _ b1 ⟨_, rfl, ?_⟩
    cases hm : decide (right m) with
    | false => exact laws_3no hk
    | true =>
      refine e.rright _ _ _ _ _ c1 ⟨_, rfl, ?_⟩
      cases hn : decide (right n) with
      | false => exact laws_3no hk
      | true =>
        unfold j8__3
        simp only [boolW_bool, Bool.not_true, Bool.not_false, cond_true]
        exact laws_4 e (by simpa using hl) (by simpa using hm) (by simpa using hn) hk a1 b1 c1
end Go.Proofs.YtkgjpdadeakacaaDoor.Am
