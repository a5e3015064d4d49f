/-
  The document's examples hold.
-/
import Derived.Test.YtkgjpdadeakacaaDoorNatT
namespace Go.Proofs.YtkgjpdadeakacaaDoor.Am
open Go Go.Proofs Nats
set_option linter.unusedVariables false
set_option linter.unusedSimpArgs false

def SpecShown (D : Orc) (f : Nat) : Prop := ∀ h (k : Kv) kp, (∀ h', Ext h h' → k (.bool true) h') → D f [] h k kp
theorem ok1 {x : Nat} (hx : x < B) : Ok [x] := fun y hy => by simp only [List.mem_singleton] at hy; omega
theorem ok2 {x y : Nat} (hx : x < B) (hy : y < B) : Ok [x, y] := fun z hz => by
  simp only [List.mem_cons, List.not_mem_nil, or_false] at hz
  rcases hz with rfl | rfl
  · exact hx
  · exact hy
theorem spec10 {D : Orc} (c : Cl10 D) (e : Env3 D) : SpecShown D 10 := by
  intro h k kp hk
  refine c _ _ _ ?_
  unfold F10
  refine e.of 4294967296 h _ _ (by decide) fun a h1 na => ⟨_, rfl, by trivial, by decide, ?_⟩
  rw [limbs_V] at na
  refine lit_rule [4294967295] rfl rfl (ok1 (by decide)) (by simp) fun p h2 np => ⟨by trivial, by decide, ?_⟩
  refine lit_rule [1] rfl rfl (ok1 (by decide)) (by simp) fun q h3 nq => ?_
  refine e.add _ _ _ _ _ _ _ (np.nr.ext nq.ext) nq.nr fun b h4 nb => ⟨_, _, rfl, by trivial, by decide, ?_⟩
  rw [ex_add] at nb ⊢
  refine lit_rule [4294967295] rfl rfl (ok1 (by decide)) (by simp) fun p2 h5 np2 => ⟨by trivial, by decide, ?_⟩
  refine lit_rule [4294967295] rfl rfl (ok1 (by decide)) (by simp) fun q2 h6 nq2 => ?_
  refine e.mul _ _ _ _ _ _ _ (np2.nr.ext nq2.ext) nq2.nr fun cc h7 nc => ⟨_, _, rfl, ?_⟩
  rw [ex_mul] at nc ⊢
  have na7 : Nr h7 a [0, 1] := (((((na.nr.ext np.ext).ext nq.ext).ext nb.ext).ext np2.ext).ext nq2.ext).ext nc.ext
  have hV : val [0, 1] = 4294967296 := by simp [val]
  refine e.text _ _ _ _ _ na7 (fun _ t h8 e8 ht => ⟨_, _, rfl, ?_⟩) (fun h => absurd right_V h)
  rw [hV, ex_text] at ht
  refine e.parse _ _ _ _ (by decide) fun x h9 nx => ⟨_, _, rfl, by trivial, by decide, ?_⟩
  rw [ex_read] at nx ⊢
  refine lit_rule [4294967295] rfl rfl (ok1 (by decide)) (by simp) fun q3 h10 nq3 => ?_
  have na10 : Nr h10 a [0, 1] := ((na7.ext e8).ext nx.ext).ext nq3.ext
  refine e.cmp _ _ _ _ _ _ _ na10 nq3.nr (fun _ => ⟨_, _, rfl, by trivial, by decide, by trivial, by decide, ?_⟩) (fun hb => ?_)
  rotate_left
  · exfalso
    have : both [0, 1] [4294967295] = true := by
      simp only [both, Bool.and_eq_true, decide_eq_true_eq]
      exact ⟨right_V, right_one (by decide) (by decide)⟩
    rw [this] at hb; cases hb
  refine lit_rule [0, 1] rfl rfl (ok2 (by decide) (by decide)) (by simp) fun s h11 ns => ?_
  have nb11 : Nr h11 b [0, 1] := (((((((nb.nr.ext np2.ext).ext nq2.ext).ext nc.ext).ext e8).ext nx.ext).ext nq3.ext).ext ns.ext)
  have nc11 : Nr h11 cc [1, 4294967294] := ((((nc.nr.ext e8).ext nx.ext).ext nq3.ext).ext ns.ext)
  have nx11 : Nr h11 x [0, 1] := (nx.nr.ext nq3.ext).ext ns.ext
  refine e.same _ _ _ _ _ _ _ (na10.ext ns.ext) ns.nr ⟨_, rfl, ?_⟩
  refine e.same _ _ _ _ _ _ _ nb11 (na10.ext ns.ext) ⟨_, rfl, by trivial, by decide, by trivial, by decide, ?_⟩
  refine lit_rule [1, 4294967294] rfl rfl (ok2 (by decide) (by decide)) (by simp) fun s2 h12 ns2 => ?_
  refine e.same _ _ _ _ _ _ _ (nc11.ext ns2.ext) ns2.nr ⟨_, rfl, ?_⟩
  refine e.same _ _ _ _ _ _ _ (nx11.ext ns2.ext) ((na10.ext ns.ext).ext ns2.ext) ⟨_, rfl, ?_⟩
  have ec : cmpI (val [0, 1] : Nat) (val [4294967295] : Nat) = 1 := by
    rw [hV]
    have : val [4294967295] = 4294967295 := by simp [val]
    rw [this]; decide
  have et : (t.toList == (ByteArray.mk #[52, 50, 57, 52, 57, 54, 55, 50, 57, 54]).toList) = true := by
    rw [toList_eq, toList_eq, ht]; rfl
  rw [ec, et]
  simp only [decide_true, cond_true, BEq.rfl]
  refine e.right _ _ _ _ _ ((na10.ext ns.ext).ext ns2.ext) ⟨_, rfl, ?_⟩
  rw [decide_eq_true right_V, cond_true]
  refine ⟨by trivial, by decide, ?_⟩
  refine lit_rule [0] rfl rfl (ok1 (by decide)) (by simp) fun s3 h13 ns3 => ?_
  refine e.right _ _ _ _ _ ns3.nr ⟨_, rfl, ?_⟩
  rw [not_right_0]
  refine hk _ ?_
  exact (((((((((((((na.ext.trans np.ext).trans nq.ext).trans nb.ext).trans np2.ext).trans nq2.ext).trans nc.ext).trans e8).trans nx.ext).trans nq3.ext).trans ns.ext).trans ns2.ext).trans ns3.ext))
end Go.Proofs.YtkgjpdadeakacaaDoor.Am
