/-
  The library's trimming on both sides.
-/
import Derived.Test.YtkgjpdadeakacaaDoorStrC
namespace Go.Proofs.YtkgjpdadeakacaaDoor.Am
open Go Go.Proofs
set_option linter.unusedVariables false
set_option linter.unusedSimpArgs false

def inSet (cut : ByteArray) (x : UInt8) : Bool := (bts cut).any (·.toNat == x.toNat)
def SpecTrimBoth (D : Orc) (f : Nat) : Prop := ∀ (s cut : ByteArray) h (k : Kv) kp, s.size < 2 ^ 62 → (∀ b ∈ bts cut, b.toNat < 128) → 2 ≤ cut.size → cut.size < 2 ^ 40 →
  (∀ t h', Ext h h' → bts t = (rtrim (inSet cut) (bts s)).dropWhile (inSet cut) → k (.string t) h') → D f [.string s, .string cut] h k kp
set_option maxRecDepth 100000 in
theorem spec37 {D : Orc} (c : Cl37 D) (t41 : SpecSet D 41) (t45 : SpecTrimRA D 45) (t42 : SpecTrimLA D 42) : SpecTrimBoth D 37 := by
  intro s cut h k kp hs ha h2 hcut hk
  refine c _ _ _ _ _ ?_
  unfold F37
  rw [strW_string, strW_string, cond_not, cond_beq_nil]
  refine ⟨fun h1 => ?_, fun h1 => ?_⟩
  · unfold j37__2
    rw [strW_string, strW_string, boolW_bool, cond_true]
    exact hk s h (Ext.refl h) (by rw [h1]; rfl)
  · have e1 : (cut.toList == (ByteArray.mk #[]).toList) = false := by
      rw [toList_eq, toList_eq]
      cases hc : bts cut with
      | nil => rw [← bts_len, hc] at h2; simp at h2
      | cons x l => rfl
    rw [e1]
    unfold j37__2
    rw [strW_string, strW_string, boolW_bool, cond_false, cond_eq]
    refine ⟨fun h => absurd h (by omega), fun _ => ?_⟩
    unfold j37__4
    rw [strW_string, strW_string, boolW_bool, cond_false]
    refine t41 _ _ _ _ ha hcut fun h1 he => ⟨_, true, rfl, ?_⟩
    intro b hb
    rw [ptrW_ptr]
    refine ⟨tab_len _, tab_one _, _, wr_all set_here (by rw [tab_len]; rfl), ?_⟩
    rw [cond_true, set_twice]
    refine t45 _ _ _ _ _ _ hs set_here fun t ht hbt => ⟨t, rfl, ?_⟩
    refine t42 _ _ _ _ _ _ (by omega) set_here fun u hu => ⟨u, rfl, ?_⟩
    refine hk u _ (he.trans (Ext.new hb)) ?_
    rw [hu, hbt]; rfl

/-- Nothing is left just if all is of the set. -/
theorem trim_nil {q : UInt8 → Bool} {l : List UInt8} : (rtrim q l).dropWhile q = [] ↔ l.all q = true := by
  have key : ∀ m : List UInt8, m.dropWhile q = [] ↔ m.all q = true := by
    intro m
    induction m with
    | nil => simp
    | cons x m ih =>
      rw [List.dropWhile_cons]
      by_cases hx : q x = true
      · rw [if_pos hx, ih]; simp [hx]
      · rw [if_neg hx]; simp [hx]
  constructor
  · intro h
    rw [key] at h
    unfold rtrim at h
    rw [List.all_reverse] at h
    have h3 : l.reverse.dropWhile q = [] := by
      cases hd : l.reverse.dropWhile q with
      | nil => rfl
      | cons x m =>
        have h4 := List.head_dropWhile_not q (l := l.reverse) (by rw [hd]; simp)
        rw [hd] at h
        simp only [hd, List.head_cons] at h4
        simp [h4] at h
    rw [key] at h3
    simpa using h3
  · intro h
    have h3 : l.reverse.dropWhile q = [] := by rw [key]; simpa using h
    unfold rtrim
    rw [h3]; rfl
end Go.Proofs.YtkgjpdadeakacaaDoor.Am
