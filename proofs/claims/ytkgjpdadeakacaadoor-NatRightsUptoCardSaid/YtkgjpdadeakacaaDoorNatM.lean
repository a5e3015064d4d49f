/-
  Writing a natural: dividing by a small number, digits.
-/
import Derived.Test.YtkgjpdadeakacaaDoorNatL
namespace Go.Proofs.YtkgjpdadeakacaaDoor.Am
open Go Go.Proofs Nats
set_option linter.unusedVariables false
set_option linter.unusedSimpArgs false

theorem val_drop {l : List Nat} {i : Nat} (h : i < l.length) : val (l.drop i) = dig l i + B * val (l.drop (i + 1)) := by
  rw [List.drop_eq_getElem_cons h, val, dig_of (List.getElem?_eq_getElem h)]
theorem drop_set {l : List Nat} {i x : Nat} (h : i < l.length) : (l.set i x).drop i = x :: l.drop (i + 1) := by
  rw [List.drop_eq_getElem_cons (by simpa using h)]
  simp [List.drop_set]
theorem div_step {q r t x m w : Nat} (h : w = m * q + r) (ht : t = r * B + x) : x + B * w = m * (t / m + B * q) + t % m := by
  subst h ht
  have h1 := Nat.div_add_mod (r * B + x) m
  have e1 : B * (m * q + r) = m * (B * q) + r * B := by rw [Nat.mul_add, Nat.mul_left_comm, Nat.mul_comm B r]
  rw [e1, Nat.mul_add]
  omega
theorem div_lt' {r x m : Nat} (hr : r < m) (hx : x < B) : (r * B + x) / m < B := by
  rw [Nat.div_lt_iff_lt_mul (by omega)]
  have h1 : (r + 1) * B ≤ m * B := Nat.mul_le_mul_right _ hr
  rw [Nat.add_mul, Nat.one_mul] at h1
  rw [Nat.mul_comm B m]
  omega

/-- Digits, the greatest first. -/
def rdig (w : Nat) : List UInt8 := if h : w = 0 then [] else rdig (w / 10) ++ [UInt8.ofNat (48 + w % 10)]
termination_by w
decreasing_by exact Nat.div_lt_self (Nat.pos_of_ne_zero h) (by decide)
theorem rdig_zero : rdig 0 = [] := by rw [rdig]; simp
theorem rdig_pos {w : Nat} (h : w ≠ 0) : rdig w = rdig (w / 10) ++ [UInt8.ofNat (48 + w % 10)] := by rw [rdig]; simp [h]
def txt (v : Nat) : List UInt8 := if v = 0 then [48] else rdig v
theorem shl32 {r : Nat} (h : r < 2 ^ 32) : IntKind.wrap .u64 ((r : Int) * 2 ^ (min (Int.toNat (32 : Int)) (IntKind.bits .u64))) = ((r * 4294967296 : Nat) : Int) := by
  have e : (2 : Int) ^ (min (Int.toNat (32 : Int)) (IntKind.bits .u64)) = 4294967296 := by decide
  rw [e, u64_id (by omega) (by omega)]
  omega

/-- The document's inner loop: all is divided by ten. -/
theorem reftext_inner {D : Orc} {h0 : H} {t : ByteArray} {a : Value} {l : List Nat} (hl : l.length ≤ 64) {K : Kl}
    (hK : ∀ h2 o r, Nb h0 h2 a o → o.length = l.length → r < 10 → val l = 10 * val o + r → K (.e 2) [a, .string t, .int .u64 (r : Int)] h2)
    {h1 : H} (nb : Nb h0 h1 a l) :
    loop26_10 D [a, .string t, .int .u64 (0 : Int), .int .i64 ((l.length : Int) - 1)] h1 K := by
  intro I hI
  have hB : B = 4294967296 := rfl
  have key : ∀ n : Nat, ∀ (o : List Nat) (r : Nat) (h2 : H), n ≤ l.length → o.length = l.length → Nb h0 h2 a o → r < 10 → (∀ j, j < n → o[j]? = l[j]?) →
      val (l.drop n) = 10 * val (o.drop n) + r → I [a, .string t, .int .u64 (r : Int), .int .i64 ((n : Int) - 1)] h2 := by
    intro n
    induction n with
    | zero =>
      intro o r h2 hn ho nb hr hj hv
      refine hI _ _ _ _ _ ?_
      unfold round26_10
      simp only [intK_int, strW_string]
      rw [cond_dec]
      refine ⟨fun x => absurd x (by omega), fun _ => ?_⟩
      exact hK _ _ _ nb ho hr hv
    | succ n ih =>
      intro o r h2 hn ho nb hr hj hv
      refine hI _ _ _ _ _ ?_
      unfold round26_10
      simp only [intK_int, strW_string]
      rw [cond_dec, show ((n + 1 : Nat) : Int) - 1 = (n : Int) by omega]
      refine ⟨fun _ => ⟨by decide, ?_⟩, fun x => absurd (show (n : Int) ≥ 0 by omega) x⟩
      refine nb.nr.at_ (by omega) (by omega) fun p x hx hxB ha => ⟨_, ha, ?_⟩
      rw [Int.toNat_natCast] at hx
      have hlt : (r * 4294967296 + x) / 10 < 4294967296 := div_lt' hr hxB
      have hxB' : x < 4294967296 := hxB
      have e2 : IntKind.wrap .u64 (IntKind.wrap .u64 ((r : Int) * 2 ^ (min (Int.toNat (32 : Int)) (IntKind.bits .u64))) + IntKind.wrap .u64 (x : Int)) = ((r * 4294967296 + x : Nat) : Int) := by
        rw [shl32 (by omega), u64_id (n := (x : Int)) (by omega) (by omega), u64_id (by omega) (by omega)]
        omega
      rw [e2]
      have e3 : IntKind.wrap .u32 (IntKind.wrap .u64 (Int.tdiv ((r * 4294967296 + x : Nat) : Int) (10 : Int))) = (((r * 4294967296 + x) / 10 : Nat) : Int) := by
        rw [Int.tdiv_eq_ediv_of_nonneg (by omega), u64_id (by omega) (by omega), u32_id (by omega) (by omega)]
        omega
      have e4 : Int.tmod ((r * 4294967296 + x : Nat) : Int) (10 : Int) = (((r * 4294967296 + x) % 10 : Nat) : Int) := by
        rw [Int.tmod_eq_emod_of_nonneg (by omega)]
        omega
      refine ⟨by decide, ?_⟩
      rw [e3, e4]
      refine nb.put (by trivial) (by trivial) (x := (r * 4294967296 + x) / 10) n rfl (by omega) rfl (div_lt' hr hxB) (fun h3 nb3 => ?_)
      refine ⟨by decide, ?_⟩
      rw [i64_id (by omega) (by omega)]
      refine ih (o.set n ((r * 4294967296 + x) / 10)) ((r * 4294967296 + x) % 10) h3 (by omega) (by simpa using ho) nb3 (Nat.mod_lt _ (by decide)) (fun j hjn => by
        rw [List.getElem?_set, if_neg (by omega)]; exact hj j (by omega)) ?_
      have hlx : l[n]? = some x := by rw [← hj n (by omega)]; exact hx
      rw [val_drop (by omega), dig_of hlx, drop_set (by omega), val]
      exact div_step hv rfl
  exact key l.length l 0 h1 (Nat.le_refl _) rfl nb (by decide) (fun _ _ => rfl) (by simp [val])
end Go.Proofs.YtkgjpdadeakacaaDoor.Am
