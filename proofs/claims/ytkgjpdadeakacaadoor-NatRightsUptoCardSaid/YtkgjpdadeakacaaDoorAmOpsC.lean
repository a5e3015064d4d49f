/-
  Each operation's reading holds of the model's run of it: arithmetic, comparisons, cuts, indexes, conversions.
-/
import Derived.Test.YtkgjpdadeakacaaDoorAmOpsB
namespace Go.Proofs.YtkgjpdadeakacaaDoor.Am
open Go
set_option linter.unusedSimpArgs false
variable {P : Program} {h : H} {w : World}

theorem shInt_sound {op : BinOp} {j yk : IntKind} {a b : Int} {k : Value → Prop} (hk : shInt op j a b k) : ∃ v, (Op.shift op j a yk b).run P w = .ok v w ∧ k v := by
  unfold shInt at hk
  split at hk
  · obtain ⟨h0, hk⟩ := hk
    exact ⟨_, by simp [Op.shift, show ¬ b < 0 by omega], hk⟩
  · obtain ⟨h0, hk⟩ := hk
    exact ⟨_, by simp [Op.shift, show ¬ b < 0 by omega], hk⟩
  · exact hk.elim

theorem binInt_sound {op : BinOp} {j : IntKind} {a b : Int} {k : Value → Prop} {t : TypeId} (hs : isShift op = false) (hk : binInt op j a b k) :
    ∃ v, (Go.binOp op t (.int j a) (.int j b)).run P w = .ok v w ∧ k v := by
  unfold binInt at hk
  split at hk
  all_goals first
    | exact hk.elim
    | exact ⟨_, by simp [Go.binOp, Op.intArith, Op.intCmp, Op.intBits], hk⟩
    | exact ⟨_, by simp [Go.binOp, Op.intDiv, hk.1], hk.2⟩

theorem binStr_sound {op : BinOp} {a b : ByteArray} {k : Value → Prop} {t : TypeId} (hk : binStr op a b k) :
    ∃ v, (Go.binOp op t (.string a) (.string b)).run P w = .ok v w ∧ k v := by
  unfold binStr at hk
  split at hk
  · obtain ⟨hb, hk⟩ := hk
    refine ⟨_, ?_, hk⟩
    have : ¬ ((a.size + b.size : Nat) : Int) > IntKind.i64.max := by
      have : IntKind.i64.max = 9223372036854775807 := rfl
      rw [this]; omega
    simp [Go.binOp, Op.stringOp, this]
    omega
  all_goals first
    | exact hk.elim
    | exact ⟨_, by simp [Go.binOp, Op.stringOp], hk⟩

theorem part_run {t : TypeId} {d : TypeDesc} {cs : List Value} {off : Nat} {k : Value → Prop} (hd : P.underlying t = some d) (hk : partW (aggB P t) cs off (szOf P t) k) :
    ∃ v, (part t cs.toArray off).run P w = .ok v w ∧ k v := by
  unfold partW at hk
  unfold part
  split at hk
  · rename_i ha
    refine ⟨_, ?_, hk⟩
    simp only [Sem.run_bind, run_agg hd, Result.andThen_ok, ha, if_true, run_size hd, Sem.run_pure]
    congr 2
    apply Array.toList_inj.mp
    simp [List.extract_eq_take_drop]
  · rename_i ha
    split at hk
    · rename_i v vs hv
      refine ⟨v, ?_, hk⟩
      have : cs.toArray[off]? = some v := by
        have := congrArg (·[0]?) hv
        simpa using this
      simp [run_agg hd, ha, this]
    · exact hk.elim

/-- What a struct's or an array's cells are, field by field. -/
theorem boolW_inv {v : Value} {k : Bool → Prop} (hk : boolW v k) : ∃ b, v = .bool b ∧ k b := by
  unfold boolW at hk; split at hk
  · exact ⟨_, rfl, hk⟩
  · exact hk.elim
theorem intW_inv {v : Value} {k : IntKind → Int → Prop} (hk : intW v k) : ∃ j n, v = .int j n ∧ k j n := by
  unfold intW at hk; split at hk
  · exact ⟨_, _, rfl, hk⟩
  · exact hk.elim
theorem strW_inv {v : Value} {k : ByteArray → Prop} (hk : strW v k) : ∃ s, v = .string s ∧ k s := by
  unfold strW at hk; split at hk
  · exact ⟨_, rfl, hk⟩
  · exact hk.elim
theorem ptrW_inv {v : Value} {k : Addr → Prop} (hk : ptrW v k) : ∃ a, v = .pointer (some a) ∧ k a := by
  unfold ptrW at hk; split at hk
  · exact ⟨_, rfl, hk⟩
  · exact hk.elim
theorem aggW_inv {v : Value} {k : List Value → Prop} (hk : aggW v k) : ∃ cs : List Value, v = .agg cs.toArray ∧ k cs := by
  unfold aggW at hk; split at hk
  · rename_i cs; exact ⟨cs.toList, rfl, hk⟩
  · exact hk.elim
theorem lenW_inv {v : Value} {k : Nat → Prop} (hk : lenW v k) : ∃ a n c, v = .slice a n c ∧ k n := by
  unfold lenW at hk; split at hk
  · exact ⟨_, _, _, rfl, hk⟩
  · exact hk.elim
theorem slenW_inv {v : Value} {k : Nat → Prop} (hk : slenW v k) : (∃ a n c, v = .slice a n c ∧ k n) ∨ (∃ s, v = .string s ∧ k s.size) := by
  unfold slenW at hk; split at hk
  · exact .inl ⟨_, _, _, rfl, hk⟩
  · exact .inr ⟨_, rfl, hk⟩
  · exact hk.elim

theorem equal_sound {c : Bool} {t : TypeId} {x y : Value} {k : Bool → Prop} (hs : aggB P t = false) (hk : eqW P c t x y k) :
    ∃ r, (Op.equal t x y).run P w = .ok r w ∧ k r := by
  unfold eqW at hk
  unfold Op.equal Op.maxDepth Op.equalIn
  split at hk
  · rename_i hu
    obtain ⟨a, rfl, hk1⟩ := boolW_inv hk
    obtain ⟨b, rfl, hk2⟩ := boolW_inv hk1
    exact ⟨_, by simp [run_und hu], hk2⟩
  all_goals first
    | (exact hk.elim)
    | (rename_i hu; split at hk <;> first | exact hk.elim | exact ⟨_, by simp [run_und hu], hk⟩ | exact ⟨_, by simp [run_und hu], hk.2⟩)
    | (rename_i hu; simp [aggB, hu] at hs)
    | exact hk.elim

def plainEq : Value → Value → Bool
  | .int _ _, .int _ _ => false
  | .float _ _, .float _ _ => false
  | .complex _ _ _, .complex _ _ _ => false
  | .string _, .string _ => false
  | _, _ => true
theorem eqW_plain {c : Bool} {t : TypeId} {x y : Value} {k : Bool → Prop} (hs : aggB P t = false) (hk : eqW P c t x y k) : plainEq x y = true := by
  unfold eqW at hk
  split at hk
  · obtain ⟨a, rfl, hk1⟩ := boolW_inv hk
    obtain ⟨b, rfl, _⟩ := boolW_inv hk1
    rfl
  all_goals first
    | (exact hk.elim)
    | (split at hk <;> first | rfl | exact hk.elim)
    | (rename_i hu; simp [aggB, hu] at hs)
    | exact hk.elim
theorem binOp_eql {t : TypeId} {a b : Value} (h : plainEq a b = true) : Go.binOp .eql t a b = (do pure (.bool (← Op.equal t a b)) : Sem Value) := by
  cases a <;> cases b <;> first | rfl | simp [plainEq] at h
theorem binOp_neq {t : TypeId} {a b : Value} (h : plainEq a b = true) : Go.binOp .neq t a b = (do pure (.bool (!(← Op.equal t a b))) : Sem Value) := by
  cases a <;> cases b <;> first | rfl | simp [plainEq] at h

theorem eqGuard_run {op : BinOp} {t : TypeId} {x y : Operand} {a b : Value} (hab : ∀ cs ds, ¬ (a = .agg cs ∧ b = .agg ds))
    (hc : a = .nilIface → b = .nilIface → (op = .eql ∨ op = .neq) → (isConst x || isConst y) = true) :
    (eqGuard op t x y a b).run P w = .ok () w := by
  unfold eqGuard
  by_cases ho : op = .eql ∨ op = .neq
  · cases a <;> cases b <;> first
      | (rcases ho with rfl | rfl <;> simp; done)
      | (rename_i cs ds; exact absurd ⟨rfl, rfl⟩ (hab cs ds))
      | (have h1 := hc rfl rfl ho
         clear hc
         cases x <;> cases y <;> first | (simp [isConst] at h1; done) | (rcases ho with rfl | rfl <;> simp))
  · cases op <;> first | exact absurd (Or.inl rfl) ho | exact absurd (Or.inr rfl) ho | simp

theorem binV_sound {op : BinOp} {t : TypeId} {x y : Operand} {a b : Value} {k : Value → Prop} (hs : aggB P t = false) (hk : binV P op (isConst x || isConst y) t a b k) :
    ∃ v, (do eqGuard op t x y a b; Go.binOp op t a b : Sem Value).run P w = .ok v w ∧ k v := by
  have red : (∀ cs ds, ¬ (a = .agg cs ∧ b = .agg ds)) → (a = .nilIface → b = .nilIface → (op = .eql ∨ op = .neq) → (isConst x || isConst y) = true) →
      (∃ v, (Go.binOp op t a b).run P w = .ok v w ∧ k v) → ∃ v, (do eqGuard op t x y a b; Go.binOp op t a b : Sem Value).run P w = .ok v w ∧ k v := by
    intro h1 h2 ⟨v, hv, hkv⟩
    exact ⟨v, by simp only [Sem.run_bind, eqGuard_run h1 h2, Result.andThen_ok, hv], hkv⟩
  unfold binV at hk
  split at hk
  · rename_i j u j' v
    refine red (by simp) (by simp) ?_
    split at hk
    · rename_i hsh
      obtain ⟨r, hr, hkr⟩ := shInt_sound (P := P) (w := w) (yk := j') hk
      refine ⟨r, ?_, hkr⟩
      rw [← hr]
      cases op <;> simp [isShift] at hsh <;> rfl
    · rename_i hsh
      obtain ⟨rfl, hk⟩ := hk
      exact binInt_sound hsh hk
  · exact red (by simp) (by simp) (binStr_sound hk)
  · rename_i hni hns
    have core : ∀ {q : Bool → Prop}, (op = .eql ∨ op = .neq) → eqW P (isConst x || isConst y) t a b q →
        (∀ cs ds, ¬ (a = .agg cs ∧ b = .agg ds)) ∧ (a = .nilIface → b = .nilIface → (op = .eql ∨ op = .neq) → (isConst x || isConst y) = true) ∧ ∃ r, (Op.equal t a b).run P w = .ok r w ∧ q r := by
      intro q _ hq
      refine ⟨fun cs ds => ?_, fun ha hb _ => ?_, equal_sound hs hq⟩
      · rintro ⟨rfl, rfl⟩
        unfold eqW at hq
        split at hq
        · obtain ⟨_, h1, _⟩ := boolW_inv hq; cases h1
        all_goals first
          | (exact hq.elim)
          | (split at hq <;> simp_all; done)
          | (rename_i hu; simp [aggB, hu] at hs)
          | exact hq.elim
      · subst ha hb
        unfold eqW at hq
        split at hq
        · obtain ⟨_, h1, _⟩ := boolW_inv hq; cases h1
        all_goals first
          | exact hq.1
          | exact hq.elim
          | (split at hq <;> simp_all; done)
          | (rename_i hu; simp [aggB, hu] at hs)
    split at hk
    · obtain ⟨h1, h2, r, hr, hkr⟩ := core (.inl rfl) hk
      refine red h1 h2 ⟨.bool r, ?_, hkr⟩
      rw [binOp_eql (eqW_plain hs hk)]
      simp only [Sem.run_bind, hr, Result.andThen_ok, Sem.run_pure]
    · obtain ⟨h1, h2, r, hr, hkr⟩ := core (.inr rfl) hk
      refine red h1 h2 ⟨.bool (!r), ?_, hkr⟩
      rw [binOp_neq (eqW_plain hs hk)]
      simp only [Sem.run_bind, hr, Result.andThen_ok, Sem.run_pure]
    · exact hk.elim

theorem ikEq_eq {a b : IntKind} (h : ikEq a b = true) : a = b := by
  unfold ikEq at h
  cases a <;> cases b <;> first | rfl | (exact absurd h (by decide))
theorem intK_inv {j : IntKind} {v : Value} {k : Int → Prop} (hk : intK j v k) : ∃ n, v = .int j n ∧ k n := by
  unfold intK at hk
  cases v <;> try exact hk.elim
  rename_i j' n
  dsimp only at hk
  split at hk
  · rename_i h1
    obtain rfl := ikEq_eq h1
    exact ⟨n, rfl, hk⟩
  · exact hk.elim
theorem binV_of {op : BinOp} {c : Bool} {t : TypeId} {a b : Value} {k : Value → Prop} (hk : binW P op c t a b k) : binV P op c t a b k := by
  unfold binW at hk
  split at hk
  · split at hk
    · rename_i hs
      obtain ⟨x, rfl, hk1⟩ := intK_inv hk
      obtain ⟨j', y, rfl, hk2⟩ := intW_inv hk1
      simp only [binV, hs]
      exact hk2
    · rename_i hs
      obtain ⟨x, rfl, hk1⟩ := intK_inv hk
      obtain ⟨y, rfl, hk2⟩ := intK_inv hk1
      simp only [binV, hs, true_and]
      exact hk2
  · obtain ⟨x, rfl, hk1⟩ := strW_inv hk
    obtain ⟨y, rfl, hk2⟩ := strW_inv hk1
    exact hk2
  · rename_i hu
    unfold eqn at hk
    split at hk
    all_goals first
      | exact hk.elim
      | (obtain ⟨x, rfl, hk1⟩ := boolW_inv hk
         obtain ⟨y, rfl, hk2⟩ := boolW_inv hk1
         simpa [binV, eqW, hu, boolW] using hk2)
  all_goals first
    | exact hk.elim
    | (rename_i hu
       unfold eqn at hk
       split at hk
       all_goals first
         | exact hk.elim
         | (unfold eqSl at hk; split at hk <;> first | exact hk.elim | simpa [binV, eqW, hu] using hk)
         | (unfold eqMap at hk; split at hk <;> first | exact hk.elim | simpa [binV, eqW, hu] using hk)
         | (unfold eqFn at hk; split at hk <;> first | exact hk.elim | simpa [binV, eqW, hu] using hk)
         | (unfold eqIf at hk; split at hk <;> first | exact hk.elim | simpa [binV, eqW, hu] using hk)
         | (unfold eqPtr at hk; split at hk <;> first | exact hk.elim | simpa [binV, eqW, hu] using hk))
theorem binW_sound {op : BinOp} {t : TypeId} {x y : Operand} {a b : Value} {k : Value → Prop} (hs : aggB P t = false) (hk : binW P op (isConst x || isConst y) t a b k) :
    ∃ v, (do eqGuard op t x y a b; Go.binOp op t a b : Sem Value).run P w = .ok v w ∧ k v := binV_sound hs (binV_of hk)
end Go.Proofs.YtkgjpdadeakacaaDoor.Am
