/-
  Reading a natural.
-/
import Derived.Test.YtkgjpdadeakacaaDoorNatI
namespace Go.Proofs.YtkgjpdadeakacaaDoor.Am
open Go Go.Proofs Nats
set_option linter.unusedVariables false
set_option linter.unusedSimpArgs false

def isDig (b : UInt8) : Bool := decide (48 ≤ b.toNat) && decide (b.toNat ≤ 57)
def dec (l : List UInt8) : Nat := l.foldl (fun v b => 10 * v + (b.toNat - 48)) 0
def textOk (l : List UInt8) : Bool := match l with
  | [] => false
  | x :: r => (!(x == 48) || r.isEmpty) && (x :: r).all isDig
def readNat (l : List UInt8) : List Nat × Int := if textOk l then (if (limbs (dec l)).length ≤ 64 then (limbs (dec l), 0) else ([], 2)) else ([], 11)
theorem dec_snoc (l : List UInt8) (b : UInt8) : dec (l ++ [b]) = 10 * dec l + (b.toNat - 48) := by simp [dec]
theorem dec_take_succ {l : List UInt8} {i : Nat} {b : UInt8} (h : l[i]? = some b) : dec (l.take (i + 1)) = 10 * dec (l.take i) + (b.toNat - 48) := by
  rw [List.take_add_one, h]; exact dec_snoc _ _
theorem dec_take_le (l : List UInt8) : ∀ d i, i + d = l.length → dec (l.take i) ≤ dec l
  | 0, i, h => by rw [List.take_of_length_le (by omega)]; omega
  | d + 1, i, h => by
    have h1 := dec_take_le l d (i + 1) (by omega)
    rw [dec_take_succ (List.getElem?_eq_getElem (show i < l.length by omega))] at h1
    omega

def SpecParse (D : Orc) (f : Nat) : Prop := ∀ (s : ByteArray) h (k : Kv) kp, s.size < 2 ^ 62 →
  (∀ a h', Nb h h' a (readNat (bts s)).1 → k (.tuple #[a, .int .i64 (readNat (bts s)).2]) h') → D f [.string s] h k kp
theorem digits_cut : bts (ByteArray.mk #[48, 49, 50, 51, 52, 53, 54, 55, 56, 57]) = [48, 49, 50, 51, 52, 53, 54, 55, 56, 57] := rfl
theorem inSet_digits : inSet (ByteArray.mk #[48, 49, 50, 51, 52, 53, 54, 55, 56, 57]) = isDig := by
  funext x
  unfold inSet isDig
  rw [digits_cut, Bool.eq_iff_iff]
  simp only [List.any_cons, List.any_nil, Bool.or_false, Bool.or_eq_true, beq_iff_eq, Bool.and_eq_true, decide_eq_true_eq]
  have e : ∀ n : Nat, n < 256 → (UInt8.ofNat n).toNat = n := fun n hn => by simp [Nat.mod_eq_of_lt hn]
  have h48 : (48 : UInt8).toNat = 48 := rfl
  have h49 : (49 : UInt8).toNat = 49 := rfl
  have h50 : (50 : UInt8).toNat = 50 := rfl
  have h51 : (51 : UInt8).toNat = 51 := rfl
  have h52 : (52 : UInt8).toNat = 52 := rfl
  have h53 : (53 : UInt8).toNat = 53 := rfl
  have h54 : (54 : UInt8).toNat = 54 := rfl
  have h55 : (55 : UInt8).toNat = 55 := rfl
  have h56 : (56 : UInt8).toNat = 56 := rfl
  have h57 : (57 : UInt8).toNat = 57 := rfl
  rw [h48, h49, h50, h51, h52, h53, h54, h55, h56, h57]
  omega
theorem dig_val {b : UInt8} (h : isDig b = true) : IntKind.wrap .u64 (IntKind.wrap .u8 ((b.toNat : Int) - (48 : Int))) = ((b.toNat - 48 : Nat) : Int) ∧ b.toNat - 48 < 10 := by
  simp only [isDig, Bool.and_eq_true, decide_eq_true_eq] at h
  refine ⟨?_, by omega⟩
  rw [IntWalk.u8_in _ (by omega), u64_id (by omega) (by omega)]
  omega

/-- A digit is taken up: the row one longer, or not. -/
theorem Nb.push {h0 h : H} {a : Value} {o : List Nat} (r : Nb h0 h a o) (hs : o.length ≤ 64) {c : Nat} (hc : c < B) {v : Value} (hv : v = .int .u32 (c : Int)) {T O : Prop} (hT : T) (hO : O) {K : Value → H → Prop} (hK : ∀ s h', Nb h0 h' s (o ++ [c]) → K s h') :
    O ∧ T ∧ newSl h 1 [v] (fun s31 h32 => slenW s31 (fun n33 => srcW h32 1 s31 (n33) (fun w34 => apW h32 1 4 [(Value.int IntKind.u32 (0 : Int))] a (n33) w34 (fun s35 h36 => K s35 h36)))) := by
  subst hv
  refine ⟨hO, hT, ?_⟩
  intro b hb
  have hrow : Row (h.set b (.cells (U [c]))) (.slice (some ⟨b, 0, none⟩) 1 1) (U [c]) := Row.cells set_here rfl
  rw [slenW_slice]
  refine hrow.src (n := 1) (Nat.le_refl 1) ?_
  have e0 : (U [c]).take 1 = U [c] := rfl
  rw [e0]
  have r2 : Nb h0 (h.set b (.cells (U [c]))) a o := ⟨r.ext.trans (Ext.new hb), r.buf.ext (Ext.new hb), r.ok, r.small⟩
  refine r2.buf.app (ws := U [c]) r2.ext rfl rfl (by rw [U_len]; simp [U]; omega) (by rw [U_len]; simp [U]; omega) fun s' h2 hb2 he2 => hK _ _ ⟨he2, ?_, ?_, by simp; omega⟩
  · rw [U_app] at hb2; exact hb2
  · intro x hx
    rcases List.mem_append.mp hx with hx | hx
    · exact r.ok x hx
    · simp only [List.mem_singleton] at hx; omega

theorem parse_loop {D : Orc} {h0 : H} {s : ByteArray} (hs : s.size < 2 ^ 62) (hd : (bts s).all isDig = true) {K : Kl}
    (hK : ∀ h2 a, Nb h0 h2 a (limbs (dec (bts s))) → (limbs (dec (bts s))).length ≤ 64 → K (.e 0) [a] h2)
    (hR : ∀ h2, Ext h0 h2 → 64 < (limbs (dec (bts s))).length → K .r [.slice none 0 0, .int .i64 2] h2) {h1 : H} (he : Ext h0 h1) :
    loop27_5 D [.string s, .slice none 0 0, .int .i64 (0 : Int)] h1 K := by
  intro I hI
  have hB : B = 4294967296 := rfl
  have key : ∀ d i : Nat, ∀ (a : Value) (h2 : H), i + d = s.size → Nb h0 h2 a (limbs (dec ((bts s).take i))) → (limbs (dec ((bts s).take i))).length ≤ 64 → I [.string s, a, .int .i64 (i : Int)] h2 := by
    intro d
    induction d with
    | zero =>
      intro i a h2 hi nb h64
      refine hI _ _ _ _ ?_
      unfold round27_5
      simp only [strW_string, intK_int]
      rw [cond_dec]
      refine ⟨fun x => absurd x (by omega), fun _ => ?_⟩
      rw [List.take_of_length_le (by rw [bts_len]; omega)] at nb h64
      exact hK _ _ nb h64
    | succ d ih =>
      intro i a h2 hi nb h64
      refine hI _ _ _ _ ?_
      unfold round27_5
      simp only [strW_string, intK_int]
      rw [cond_dec]
      refine ⟨fun _ => ?_, fun x => absurd (show (i : Int) < (s.size : Int) by omega) x⟩
      refine strAt_rule (by omega) (by omega) fun x hx => ?_
      rw [Int.toNat_natCast] at hx
      have hxd : isDig x = true := List.all_eq_true.mp hd x (List.mem_of_getElem? hx)
      obtain ⟨hx1, hx2⟩ := dig_val hxd
      rw [nb.len, hx1]
      refine parse_inner h64 hx2 (fun h3 o c nb3 ho hc hv => ?_) nb
      simp only [xs_e, nth0, nth1, nth2, nth3, strW_string, intK_int, Nat.beq_refl, cond_true]
      have hstep := ten_limbs (c := c) (d := x.toNat - 48) (v := dec ((bts s).take i)) nb3.ok ho (by omega) (by rw [val_limbs] at hv; exact hv)
      rw [← dec_take_succ hx] at hstep
      have last : ∀ a' h', Nb h0 h' a' (limbs (dec ((bts s).take (i + 1)))) → j27_5_17 D I K (.string s) a' (.int .i64 (i : Int)) h' := by
        intro a' h' nb'
        unfold j27_5_17
        simp only [strW_string, intK_int]
        rw [nb'.len, cond_dec]
        refine ⟨fun h5 => hR _ nb'.ext ?_, fun h5 => ?_⟩
        · have := limbs_mono (dec_take_le (bts s) (s.size - (i + 1)) (i + 1) (by rw [bts_len]; omega))
          omega
        · rw [i64_id (by omega) (by omega), show (i : Int) + 1 = ((i + 1 : Nat) : Int) by omega]
          exact ih (i + 1) a' h' (by omega) nb' (by omega)
      rw [cond_dec]
      refine ⟨fun h5 => ?_, fun h5 => ?_⟩
      · rw [if_pos (by omega)] at hstep
        rw [← hstep] at last
        exact nb3.push (by omega) (c := c) (by omega) (by rw [u32_id (by omega) (by omega)]) (by trivial) (by trivial) (fun a' h' nb' => last a' h' nb')
      · rw [if_neg (by omega)] at hstep
        rw [← hstep] at last
        exact last _ _ nb3
  have h0l : limbs (dec ((bts s).take 0)) = [] := by
    have : dec ((bts s).take 0) = 0 := rfl
    rw [this, limbs_zero]
  exact key s.size 0 _ h1 (by omega) (by rw [h0l]; exact Nb.nil_ he) (by rw [h0l]; decide)
end Go.Proofs.YtkgjpdadeakacaaDoor.Am
