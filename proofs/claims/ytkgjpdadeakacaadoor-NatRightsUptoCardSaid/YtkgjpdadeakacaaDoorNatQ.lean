/-
  Writing a natural: nine digits more, laid behind the others.
-/
import Derived.Test.YtkgjpdadeakacaaDoorNatP
namespace Go.Proofs.YtkgjpdadeakacaaDoor.Am
open Go Go.Proofs Nats
set_option linter.unusedVariables false
set_option linter.unusedSimpArgs false

/-- Two rows in blocks of their own, apart. -/
structure Two (g h : H) (ds : Value) (dl : List UInt8) (a : Value) (l : List Nat) : Prop where
  y : Yb g h ds dl
  n : Nb g h a l
  s1 : Sep ds a
  s2 : Sep a ds
theorem Two.push {g h : H} {ds a : Value} {dl : List UInt8} {l : List Nat} (w : Two g h ds dl a l) (hs : dl.length ≤ 2 ^ 20) {c : UInt8} {v : Value} (hv : v = .int .u8 (c.toNat : Int)) {T O : Prop} (hT : T) (hO : O) {K : Value → H → Prop}
    (hK : ∀ s h', Two g h' s (dl ++ [c]) a l → K s h') :
    O ∧ T ∧ newSl h 1 [v] (fun s31 h32 => slenW s31 (fun n33 => srcW h32 1 s31 (n33) (fun w34 => apW h32 1 1 [(Value.int IntKind.u8 (0 : Int))] ds (n33) w34 (fun s35 h36 => K s35 h36)))) := by
  subst hv
  refine ⟨hO, hT, ?_⟩
  intro b hb
  have hrow : Row (h.set b (.cells (U8 [c]))) (.slice (some ⟨b, 0, none⟩) 1 1) (U8 [c]) := Row.cells set_here rfl
  rw [slenW_slice]
  refine hrow.src (n := 1) (Nat.le_refl 1) ?_
  have e0 : (U8 [c]).take 1 = U8 [c] := rfl
  rw [e0]
  have e1 : Ext (h.drop ds) (h.set b (.cells (U8 [c]))) := (Ext.drop h ds).trans (Ext.new hb)
  have hb1 : Buf (h.drop ds) (h.set b (.cells (U8 [c]))) ds (U8 dl) := w.y.buf.self.ext (Ext.new hb)
  have hg : Ext g (h.drop ds) := w.y.ext.drop_of w.y.buf
  have ha : Buf g (h.drop ds) a (U l) := w.n.buf.drop w.s1
  refine hb1.app (ws := U8 [c]) e1 rfl rfl (by rw [U8_len]; simp [U8]; omega) (by rw [U8_len]; simp [U8]; omega) fun s' h2 hb2 he2 => hK _ _ ?_
  have hsep := hb2.sep ha.row
  refine ⟨⟨hg.trans he2, ?_, by simp; omega⟩, ⟨hg.trans he2, ha.ext he2, w.n.ok, w.n.small⟩, hsep.1, hsep.2⟩
  have := hb2.mono hg
  rw [U8_app] at this
  exact this

theorem chunk {D : Orc} {g : H} {ds a : Value} {dl : List UInt8} {l : List Nat} {r : Nat} (hr : r < 1000000000) (hs : dl.length + 9 ≤ 2 ^ 20) (hd : dl.all isDig = true) {K : Kl}
    (hK : ∀ h2 ds' dl', Two g h2 ds' dl' a l → dl'.length = dl.length + 9 → dl'.all isDig = true → lsb dl' = lsb dl + 10 ^ dl.length * r → K (.e 4) [ds', a] h2)
    {h1 : H} (w : Two g h1 ds dl a l) :
    loop25_16 D [ds, a, .int .u64 (r : Int), .int .i64 (0 : Int)] h1 K := by
  intro I hI
  have key : ∀ e i : Nat, ∀ (ds' : Value) (dl' : List UInt8) (x : Nat) (h2 : H), i + e = 9 → dl'.length = dl.length + i → dl'.all isDig = true → Two g h2 ds' dl' a l → x < 10 ^ e →
      lsb dl' + 10 ^ dl'.length * x = lsb dl + 10 ^ dl.length * r → I [ds', a, .int .u64 (x : Int), .int .i64 (i : Int)] h2 := by
    intro e
    induction e with
    | zero =>
      intro i ds' dl' x h2 hi hl hd' w hx hv
      refine hI _ _ _ _ _ ?_
      unfold round25_16
      simp only [intK_int]
      rw [cond_dec]
      refine ⟨fun x => absurd x (by omega), fun _ => ?_⟩
      have hx0 : x = 0 := by simpa using hx
      subst hx0
      exact hK h2 ds' dl' w (by omega) hd' (by simpa using hv)
    | succ e ih =>
      intro i ds' dl' x h2 hi hl hd' w hx hv
      have hx9 : x < 1000000000 := Nat.lt_of_lt_of_le hx (by
        have : (10 : Nat) ^ (e + 1) ≤ 10 ^ 9 := Nat.pow_le_pow_right (by decide) (by omega)
        exact this)
      refine hI _ _ _ _ _ ?_
      unfold round25_16
      simp only [intK_int]
      rw [cond_dec]
      refine ⟨fun _ => ⟨by decide, ?_⟩, fun h => absurd (show (i : Int) < 9 by omega) h⟩
      have e1 : IntKind.wrap .u8 (IntKind.wrap .u64 ((48 : Int) + Int.tmod (x : Int) (10 : Int))) = (((UInt8.ofNat (48 + x % 10)).toNat : Nat) : Int) := by
        rw [Int.tmod_eq_emod_of_nonneg (by omega), u64_id (by omega) (by omega), IntWalk.u8_in _ (by omega)]
        have : (UInt8.ofNat (48 + x % 10)).toNat = 48 + x % 10 := by simp; omega
        rw [this]; omega
      rw [e1]
      refine w.push (by omega) (c := UInt8.ofNat (48 + x % 10)) rfl (by trivial) (by trivial) fun s' h3 w3 => ?_
      refine ⟨by decide, ?_⟩
      have e2 : IntKind.wrap .u64 (Int.tdiv (x : Int) (10 : Int)) = ((x / 10 : Nat) : Int) := by
        rw [Int.tdiv_eq_ediv_of_nonneg (by omega), u64_id (by omega) (by omega)]
        omega
      rw [e2, i64_id (by omega) (by omega), show (i : Int) + 1 = ((i + 1 : Nat) : Int) by omega]
      refine ih (i + 1) s' _ (x / 10) h3 (by omega) (by simp; omega) ?_ w3 (by rw [Nat.pow_succ] at hx; omega) ?_
      · rw [List.all_append, hd', Bool.true_and, List.all_cons, isDig_of (Nat.mod_lt x (show 0 < 10 by decide)), List.all_nil]; rfl
      · rw [lsb_snoc _ _ (Nat.mod_lt x (by decide)), List.length_append, List.length_singleton, Nat.pow_succ, ← hv, Nat.add_assoc, Nat.mul_assoc, ← Nat.mul_add]
        congr 2
        omega
  exact key 9 0 ds dl r h1 (by omega) rfl hd w hr rfl
end Go.Proofs.YtkgjpdadeakacaaDoor.Am
