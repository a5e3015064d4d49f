/-
  Rules for strings.
-/
import Derived.Test.YtkgjpdadeakacaaDoorAmLib
namespace Go.Proofs.YtkgjpdadeakacaaDoor.Am
open Go
set_option linter.unusedSimpArgs false

def bts (s : ByteArray) : List UInt8 := s.data.toList
theorem bts_len (s : ByteArray) : (bts s).length = s.size := rfl
theorem bts_inj {a b : ByteArray} (h : bts a = bts b) : a = b := by
  cases a; cases b
  simp only [bts] at h
  congr 1
  exact Array.toList_inj.mp h
theorem get!_eq (s : ByteArray) (i : Nat) (hi : i < s.size) : (bts s)[i]? = some (s.get! i) := by
  have hi' : i < s.data.size := hi
  unfold bts
  rw [Array.getElem?_toList, Array.getElem?_eq_getElem hi']
  cases s with
  | mk d => simp [ByteArray.get!, getElem!_pos, show i < d.size from hi']
theorem toList_loop (s : ByteArray) : ∀ (d i : Nat) (r : List UInt8), i + d = s.size → ByteArray.toList.loop s i r = r.reverse ++ (bts s).drop i
  | 0, i, r, h => by
    rw [ByteArray.toList.loop]
    rw [if_neg (by omega), List.drop_eq_nil_of_le (by rw [bts_len]; omega), List.append_nil]
  | d + 1, i, r, h => by
    rw [ByteArray.toList.loop]
    rw [if_pos (by omega), toList_loop s d (i + 1) _ (by omega)]
    have hi := get!_eq s i (by omega)
    have hl : i < (bts s).length := by rw [bts_len]; omega
    have : (bts s).drop i = s.get! i :: (bts s).drop (i + 1) := by
      rw [List.drop_eq_getElem_cons hl]
      rw [List.getElem?_eq_getElem hl] at hi
      rw [Option.some.inj hi]
    rw [this]
    simp
theorem toList_eq (s : ByteArray) : s.toList = bts s := by
  have := toList_loop s s.size 0 [] (by omega)
  simpa [ByteArray.toList] using this
theorem strAt_rule {s : ByteArray} {n : Int} {k : Int → Prop} (h0 : 0 ≤ n) (h1 : n < s.size) (hk : ∀ b : UInt8, (bts s)[n.toNat]? = some b → k (b.toNat : Int)) : strAtW s n k :=
  ⟨h0, h1, hk _ (get!_eq s _ (by omega))⟩
theorem bts_extract (s : ByteArray) (a b : Nat) : bts (s.extract a b) = ((bts s).take b).drop a := by
  unfold bts
  rw [ByteArray.data_extract, Array.toList_extract]
  simp [List.extract, List.drop_take]
theorem strTail_rule {s : ByteArray} {n : Int} {k : ByteArray → Prop} (h0 : 0 ≤ n) (h1 : n ≤ s.size) (hk : ∀ t, bts t = (bts s).drop n.toNat → k t) : strCutW s (some n) none k := by
  refine ⟨h0, ?_, ?_, hk _ ?_⟩
  · simpa using h1
  · simp
  · rw [bts_extract]
    simp only [Option.getD_some, Option.getD_none, Int.toNat_natCast]
    rw [List.take_of_length_le (by rw [bts_len]; omega)]
theorem strHead_rule {s : ByteArray} {n : Int} {k : ByteArray → Prop} (h0 : 0 ≤ n) (h1 : n ≤ s.size) (hk : ∀ t, bts t = (bts s).take n.toNat → k t) : strCutW s none (some n) k := by
  refine ⟨by simp, by simpa using h0, by simpa using h1, hk _ ?_⟩
  rw [bts_extract]
  simp
theorem bts_append (a b : ByteArray) : bts (a ++ b) = bts a ++ bts b := by
  unfold bts
  rw [ByteArray.data_append, Array.toList_append]
/-- Bytes as a row. -/
def U8 (l : List UInt8) : List Value := l.map fun b => .int .u8 (b.toNat : Int)
theorem bts_strOf (l : List UInt8) : bts (strOf (l.map fun b => (b.toNat : Int))) = l := by
  unfold bts strOf
  rw [List.map_map]
  have : (fun n : Int => UInt8.ofNat n.toNat) ∘ (fun b : UInt8 => (b.toNat : Int)) = id := by
    funext b
    simp
  rw [this]; simp
theorem bs_rule {h : H} {s : Value} {l : List UInt8} (r : Row h s (U8 l)) {k : ByteArray → Prop} (hk : ∀ t, bts t = l → k t) : bsW h s k := by
  obtain ⟨base, cap, rfl, hc, hb⟩ := r
  rcases hb with rfl | ⟨a, rfl, g1, c, g2, g3, g4⟩
  · have : l = [] := by simpa [U8] using hc
    subst this
    cases base with
    | none => exact hk _ rfl
    | some a => exact ⟨[], by simp [rdR, U8], hk _ rfl⟩
  · refine ⟨l.map fun b => (b.toNat : Int), ?_, hk _ (bts_strOf l)⟩
    rw [rdR_row g1 g2 (by omega), g4]
    simp [U8, List.map_map]
end Go.Proofs.YtkgjpdadeakacaaDoor.Am
