/-
  Writing a natural: the program's dividing.
-/
import Derived.Test.YtkgjpdadeakacaaDoorNatN
namespace Go.Proofs.YtkgjpdadeakacaaDoor.Am
open Go Go.Proofs Nats
set_option linter.unusedVariables false
set_option linter.unusedSimpArgs false

theorem or_add {r x : Nat} (hr : r < 2 ^ 30) (hx : x < 2 ^ 32) :
    IntKind.wrap .u64 ((BitVec.ofInt (IntKind.bits .u64) (IntKind.wrap .u64 ((r : Int) * 2 ^ (min (Int.toNat (32 : Int)) (IntKind.bits .u64)))) ||| BitVec.ofInt (IntKind.bits .u64) (IntKind.wrap .u64 (x : Int))).toNat : Int) = ((r * 4294967296 + x : Nat) : Int) := by
  rw [shl32 (by omega), u64_id (n := (x : Int)) (by omega) (by omega)]
  have e : (BitVec.ofInt (IntKind.bits .u64) ((r * 4294967296 : Nat) : Int) ||| BitVec.ofInt (IntKind.bits .u64) (x : Int)).toNat = r * 4294967296 + x := by
    rw [BitVec.ofInt_natCast, BitVec.ofInt_natCast, BitVec.toNat_or, BitVec.toNat_ofNat, BitVec.toNat_ofNat]
    have e64 : (2 : Nat) ^ (IntKind.bits .u64) = 18446744073709551616 := by decide
    rw [e64, Nat.mod_eq_of_lt (by omega), Nat.mod_eq_of_lt (by omega)]
    have := Nat.two_pow_add_eq_or_of_lt (i := 32) (b := x) hx r
    rw [Nat.mul_comm r]
    exact this.symm
  rw [e, u64_id (by omega) (by omega)]
theorem text_inner {D : Orc} {h0 : H} {ds a : Value} {l : List Nat} (hl : l.length ≤ 64) {K : Kl}
    (hK : ∀ h2 o r, Nb h0 h2 a o → Ext h0 h2 → o.length = l.length → r < 1000000000 → val l = 1000000000 * val o + r → K (.e 2) [ds, a, .int .u64 (r : Int)] h2)
    {h1 : H} (nb : Nb h0 h1 a l) :
    loop25_10 D [ds, a, .int .u64 (0 : Int), .int .i64 ((l.length : Int) - 1)] h1 K := by
  intro I hI
  have hB : B = 4294967296 := rfl
  have key : ∀ n : Nat, ∀ (o : List Nat) (r : Nat) (h2 : H), n ≤ l.length → o.length = l.length → Nb h0 h2 a o → r < 1000000000 → (∀ j, j < n → o[j]? = l[j]?) →
      val (l.drop n) = 1000000000 * val (o.drop n) + r → I [ds, a, .int .u64 (r : Int), .int .i64 ((n : Int) - 1)] h2 := by
    intro n
    induction n with
    | zero =>
      intro o r h2 hn ho nb hr hj hv
      refine hI _ _ _ _ _ ?_
      unfold round25_10
      simp only [intK_int, strW_string]
      rw [cond_dec]
      refine ⟨fun x => absurd x (by omega), fun _ => ?_⟩
      exact hK _ _ _ nb nb.ext ho hr hv
    | succ n ih =>
      intro o r h2 hn ho nb hr hj hv
      refine hI _ _ _ _ _ ?_
      unfold round25_10
      simp only [intK_int, strW_string]
      rw [cond_dec, show ((n + 1 : Nat) : Int) - 1 = (n : Int) by omega]
      refine ⟨fun _ => ⟨by decide, ?_⟩, fun x => absurd (show (n : Int) ≥ 0 by omega) x⟩
      refine nb.nr.at_ (by omega) (by omega) fun p x hx hxB ha => ⟨_, ha, ?_⟩
      rw [Int.toNat_natCast] at hx
      have hlt : (r * 4294967296 + x) / 1000000000 < 4294967296 := div_lt' hr hxB
      have hxB' : x < 4294967296 := hxB
      rw [or_add (by omega) (by omega)]
      have e3 : IntKind.wrap .u32 (IntKind.wrap .u64 (Int.tdiv ((r * 4294967296 + x : Nat) : Int) (1000000000 : Int))) = (((r * 4294967296 + x) / 1000000000 : Nat) : Int) := by
        rw [Int.tdiv_eq_ediv_of_nonneg (by omega), u64_id (by omega) (by omega), u32_id (by omega) (by omega)]
        omega
      have e4 : Int.tmod ((r * 4294967296 + x : Nat) : Int) (1000000000 : Int) = (((r * 4294967296 + x) % 1000000000 : Nat) : Int) := by
        rw [Int.tmod_eq_emod_of_nonneg (by omega)]
        omega
      refine ⟨by decide, ?_⟩
      rw [e3, e4]
      refine nb.put (by trivial) (by trivial) (x := (r * 4294967296 + x) / 1000000000) n rfl (by omega) rfl (div_lt' hr hxB) (fun h3 nb3 => ?_)
      refine ⟨by decide, ?_⟩
      rw [i64_id (by omega) (by omega)]
      refine ih (o.set n ((r * 4294967296 + x) / 1000000000)) ((r * 4294967296 + x) % 1000000000) h3 (by omega) (by simpa using ho) nb3 (Nat.mod_lt _ (by decide)) (fun j hjn => by
        rw [List.getElem?_set, if_neg (by omega)]; exact hj j (by omega)) ?_
      have hlx : l[n]? = some x := by rw [← hj n (by omega)]; exact hx
      rw [val_drop (by omega), dig_of hlx, drop_set (by omega), val]
      exact div_step hv rfl
  exact key l.length l 0 h1 (Nat.le_refl _) rfl nb (by decide) (fun _ _ => rfl) (by simp [val])
end Go.Proofs.YtkgjpdadeakacaaDoor.Am
