/-
  Each operation's reading holds of the model's run of it: append, copy, assertions, least and greatest.
-/
import Derived.Test.YtkgjpdadeakacaaDoorAmOpsD
namespace Go.Proofs.YtkgjpdadeakacaaDoor.Am
open Go
set_option linter.unusedSimpArgs false
variable {P : Program} {h : H} {w : World}

theorem srcW_run {sz n : Nat} {x : Value} {k : List Value → Prop} (hk : srcW h sz x n k) : ∃ ws, (∀ w, Rel h w → (Builtin.firstCells sz n x).run P w = .ok ws.toArray w) ∧ k ws := by
  unfold srcW at hk
  split at hk
  · exact ⟨[], fun w _ => by simp [Builtin.firstCells], hk⟩
  · obtain ⟨ws, hr, hk⟩ := hk
    exact ⟨ws, fun w r => by simp [Builtin.firstCells, loadR_sound r hr], hk⟩
  · rename_i s
    refine ⟨_, fun w _ => ?_, hk⟩
    simp only [Builtin.firstCells, Sem.run_pure]
    congr 1
    apply Array.toList_inj.mp
    simp
  · exact hk.elim

theorem zeroCells_run (z : List Value) (n : Nat) : Builtin.zeroCells z.toArray n = (List.replicate n z).flatten.toArray := by
  unfold Builtin.zeroCells
  exact zeroCells_eq z.toArray n

theorem append_head {t u el ty : TypeId} {base : Option Addr} {len cap n : Nat} {x : Value} (he : elemOfSl P t = some el) (hs : (sizeOf el).run P w = .ok (szOf P el) w) (hu : srcTy P u = true)
    (hlen : (Builtin.lenOf x).run P w = .ok n w) :
    (Builtin.append_ #[t, u] ty #[.slice base len cap, x]).run P w =
      (if len + n ≤ cap then (do
          let new ← Builtin.firstCells (szOf P el) n x
          if let some a := base then storeCells (a.add (len * szOf P el)) new.toList
          pure (.slice base (len + n) cap) : Sem Value)
        else (do
          if ((len + n : Nat) : Int) > IntKind.i64.max ∧ (false = true ∨ (← typeInfo el).bytes = 0) then runtimePanic (.error "growslice: len out of range")
          if Builtin.nextslicecap (len + n) cap * (← typeInfo el).bytes > 2 ^ 48 then (do
            if !(← Builtin.mayShare (szOf P el) len n base x) then mark .noRoom
            unsupported (.resourceLimit "append: a slice or a string whose bytes no memory bears"))
          let newCap ← choose (.appendCap (len + n) cap el)
          askRoom (newCap * (← typeInfo el).bytes)
          let old ← Builtin.firstCells (szOf P el) len (.slice base len cap)
          let new ← Builtin.firstCells (szOf P el) n x
          let rest := Builtin.zeroCells (← zeroValue el).cells (newCap - (len + n))
          pure (.slice (some (← newRow el (old ++ new ++ rest))) (len + n) newCap) : Sem Value)).run P w := by
  unfold srcTy at hu
  cases hd : P.underlying u with
  | none => simp [hd] at hu
  | some d =>
    cases d <;> first
      | (simp [hd] at hu; done)
      | (unfold Builtin.append_
         simp only [Sem.run_bind, run_und (slEl he), Result.andThen_ok, hs, run_und hd, hlen, Sem.run_pure, List.getElem?_toArray, List.getElem?_cons_zero, List.getElem?_cons_succ]
         by_cases hc : len + n ≤ cap
         · simp [hc, hlen]
           congr 1 <;> (funext a w'; cases base <;> rfl)
         · simp [hc, hlen])

theorem append_sound (r : Rel h w) {t u el ty : TypeId} {s x : Value} {n : Nat} {k : Kv} (he : elemOfSl P t = some el) (hz : zOk P el = true) (hu : srcTy P u = true)
    (hn : slenW x (· = n)) (hk : srcW h (szOf P el) x n fun ws => apW h (szOf P el) (bytesOf P el) (zeroL P el) s n ws k) :
    Good h w ((Builtin.append_ #[t, u] ty #[s, x]).run P w) k := by
  obtain ⟨z, hz1, hz2, hz3, hz4⟩ := zOk_spec hz
  obtain ⟨i, hii⟩ := info_of_zero hz1
  have hi : ∀ w' : World, (typeInfo el).run P w' = .ok i w' := fun w' => by simp [typeInfo, hii]
  have hib : i.bytes = bytesOf P el := by simp [bytesOf, Program.bytesOf, hii]
  obtain ⟨ws, hws, hk0⟩ := srcW_run (P := P) hk
  have hlen : (Builtin.lenOf x).run P w = .ok n w := by
    rcases slenW_inv hn with ⟨a, m, c, rfl, hm⟩ | ⟨b, rfl, hm⟩
    · simp [Builtin.lenOf, hm]
    · simp [Builtin.lenOf, hm]
  unfold apW at hk0
  split at hk0
  · rename_i base len cap
    obtain ⟨hk1, hk2⟩ := hk0
    rw [append_head he (run_size' hz1) hu hlen]
    by_cases hc : len + n ≤ cap
    · have hk1 := hk1 hc
      rw [if_pos hc]
      cases base with
      | none =>
        simp only at hk1
        simp only [Sem.run_bind, hws w r, Result.andThen_ok, Sem.run_pure]
        exact Good.pure r hk1
      | some a =>
        obtain ⟨hka, hkb⟩ := hk1
        by_cases hw0 : ws = []
        · have hws' := hws w r
          rw [hw0] at hws'
          simp only [Sem.run_bind, hws', Result.andThen_ok, Sem.run_pure, storeCells]
          exact Good.pure r (hka hw0)
        · obtain ⟨hone, h', hwr, hk⟩ := hkb hw0
          obtain ⟨w', hst, r', f⟩ := wr_sound (P := P) r hwr hone
          simp only [Sem.run_bind, hws w r, Result.andThen_ok, Sem.run_pure, hst]
          exact ⟨_, w', h', rfl, hk, r', f⟩
    · obtain ⟨hb, hmax, old, hold, hk⟩ := hk2 (by omega)
      rw [if_neg hc]
      have hr : Rel h w.drew := r.same (SameHeap.refl w).drew
      have hol : (Builtin.firstCells (szOf P el) len (.slice base len cap)).run P w.drew = .ok old.toArray w.drew := by
        cases base with
        | none => simp [oldOf] at hold; subst hold; simp [Builtin.firstCells]
        | some a => simp only [oldOf] at hold; simp [Builtin.firstCells, loadR_sound hr hold]
      obtain ⟨c, hc1, hc2⟩ : ∃ c, len + n ≤ c ∧ (Question.appendCap (len + n) cap el).cut (w.tape w.drawn (.appendCap (len + n) cap el)) = c := ⟨_, by simp [Question.cut], rfl⟩
      have nw := (New.alloc w.drew (.cells (old ++ (ws ++ (List.replicate (c - (len + n)) (zeroL P el)).flatten)).toArray el)).of_drew
      have hzc : Builtin.zeroCells z.cells (c - (len + n)) = ((List.replicate (c - (len + n)) (zeroL P el)).flatten).toArray := by
        have := zeroCells_run z.cells.toList (c - (len + n))
        rw [hz2]
        simpa using this
      have hmx : ¬ ((len + n : Nat) : Int) > IntKind.i64.max := by omega
      have hbb : ¬ Builtin.nextslicecap (len + n) cap * i.bytes > 2 ^ 48 := by rw [hib]; omega
      have hch : (choose (.appendCap (len + n) cap el)).run P w = .ok c w.drew := by rw [run_choose_drew, hc2]; simp [Question.forced]
      have harr : old.toArray ++ ws.toArray ++ ((List.replicate (c - (len + n)) (zeroL P el)).flatten).toArray = (old ++ (ws ++ (List.replicate (c - (len + n)) (zeroL P el)).flatten)).toArray := by simp
      simp only [Sem.run_bind, hi, Result.andThen_ok, hmx, false_and, if_false, hbb, Sem.run_pure, hch, askRoom_run, hol, hws w.drew hr, run_zero hz1, hzc, newRow, run_newObj_alloc, harr]
      exact ⟨_, _, h.set w.heap.size (.cells _), rfl, hk _ _ r.fresh hc1, r.new nw ⟨el, (0, 0), rfl, by simp⟩, Frame.new r nw⟩
  · exact hk0.elim
theorem copy_sound (r : Rel h w) {t u el ty : TypeId} {d x : Value} {n m : Nat} {k : Kv} (he : elemOfSl P t = some el) (hz : zOk P el = true)
    (hn : slenW x (· = n)) (hm : slenW d (· = m)) (hk : srcW h (szOf P el) x (min n m) fun ws => cpW h d n ws k) :
    Good h w ((Builtin.copy_ #[t, u] ty #[d, x]).run P w) k := by
  obtain ⟨z, hz1, hz2, hz3, hz4⟩ := zOk_spec hz
  obtain ⟨ws, hws, hk0⟩ := srcW_run (P := P) hk
  have hlen : (Builtin.lenOf x).run P w = .ok n w := by
    rcases slenW_inv hn with ⟨a, m, c, rfl, hm⟩ | ⟨b, rfl, hm⟩
    · simp [Builtin.lenOf, hm]
    · simp [Builtin.lenOf, hm]
  unfold cpW at hk0
  split at hk0
  · rename_i base len cap
    obtain rfl : len = m := by simpa [slenW] using hm
    obtain ⟨hk1, hk2⟩ := hk0
    have hmin : Nat.min n len = min n len := rfl
    unfold Builtin.copy_
    simp only [Sem.run_bind, run_und (slEl he), Result.andThen_ok, List.getElem?_toArray, List.getElem?_cons_zero, List.getElem?_cons_succ, Sem.run_pure, hlen, run_size' hz1, hmin, hws w r]
    by_cases h0 : ws = []
    · subst h0
      have hk1 := hk1 rfl
      cases base with
      | none => simp only [Sem.run_bind, Sem.run_pure, Result.andThen_ok]; exact Good.pure r hk1
      | some a => simp only [Sem.run_bind, Sem.run_pure, Result.andThen_ok, storeCells]; exact Good.pure r hk1
    · have hk2 := hk2 h0
      cases base with
      | none => simp only [Sem.run_bind, Sem.run_pure, Result.andThen_ok]; exact Good.pure r hk2
      | some a =>
        obtain ⟨h1, h', hw, hk⟩ := hk2
        obtain ⟨w', hst, r', f⟩ := wr_sound (P := P) r hw h1
        simp only [Sem.run_bind, Sem.run_pure, Result.andThen_ok, hst]
        exact ⟨_, w', h', rfl, hk, r', f⟩
  · exact hk0.elim

theorem minMaxGo_run {mx : Bool} {j : IntKind} : ∀ (vs : List Value) (a : Int) (k : Value → Prop), minMaxGo mx j a vs k →
    ∃ v, (vs.foldlM (m := Sem) (if mx then Builtin.max2 else Builtin.min2) (.int j a)).run P w = .ok v w ∧ k v
  | [], a, k, hk => ⟨_, by simp, hk⟩
  | v :: vs, a, k, hk => by
    unfold minMaxGo at hk
    split at hk
    · exact absurd ‹_ = []› (by simp)
    · rename_i j' b vs' heq
      obtain ⟨rfl, rfl⟩ := List.cons.inj heq
      obtain ⟨rfl, hk⟩ := hk
      obtain ⟨v, hv, hkv⟩ := minMaxGo_run vs _ _ hk
      refine ⟨v, ?_, hkv⟩
      rw [← hv]
      cases mx <;> simp [List.foldlM_cons, Builtin.max2, Builtin.min2]
    · exact hk.elim

theorem assert_sound {x : Value} {xt t : TypeId} {ok : Bool} {k : Value → Prop} (hk : assertW P x t ok k) : ∃ v, (Instr.typeAssert x xt t ok).run P w = .ok v w ∧ k v := by
  unfold assertW at hk
  split at hk
  · exact hk.elim
  · rename_i d hni hd
    have hnot : ∀ ms, d ≠ .interface ms := fun ms e => hni ms e
    unfold Instr.typeAssert
    split at hk
    · split at hk
      · split at hk
        · rename_i z hz
          refine ⟨_, ?_, hk⟩
          cases d <;> first
            | (exact absurd rfl (hnot _))
            | simp [run_und hd, run_zero hz]
        · exact hk.elim
      · rename_i u v
        split at hk
        · rename_i z hz
          by_cases e : u = t
          · refine ⟨_, ?_, hk.1 e⟩
            cases d <;> first
              | (exact absurd rfl (hnot _))
              | simp [run_und hd, e]
          · refine ⟨_, ?_, hk.2 e⟩
            cases d <;> first
              | (exact absurd rfl (hnot _))
              | simp [run_und hd, e, run_zero hz]
        · exact hk.elim
      · exact hk.elim
    · split at hk
      · rename_i u v
        obtain ⟨rfl, hk⟩ := hk
        refine ⟨_, ?_, hk⟩
        cases d <;> first
          | (exact absurd rfl (hnot _))
          | simp [run_und hd]
      · exact hk.elim
  · exact hk.elim
theorem known_run {t : TypeId} (hk : known P t = true) : (sizeOf t).run P w = .ok (szOf P t) w := by
  obtain ⟨i, hi⟩ := Option.isSome_iff_exists.mp hk
  simp [sizeOf, typeInfo, hi, szOf, Program.cellsOf]

theorem strCut_sound {t : TypeId} {lo hi : Option Value} {l hh : Option Int} {s : ByteArray} {k : ByteArray → Prop} (hu : P.underlying t = some .string)
    (e1 : (lo = none ∧ l = none) ∨ ∃ j n, lo = some (.int j n) ∧ l = some n) (e2 : (hi = none ∧ hh = none) ∨ ∃ j n, hi = some (.int j n) ∧ hh = some n) (hk : strCutW s l hh k) :
    ∃ v, (Instr.sliceAt t (.string s) lo hi none).run P w = .ok (.string v) w ∧ k v := by
  obtain ⟨h0, h1, h2, hk⟩ := hk
  refine ⟨_, ?_, hk⟩
  have hb := bounds_run (P := P) (w := w) (sl := false) (len := s.size) (cap := s.size) (mx := none) (m := none) e1 e2 (.inl ⟨rfl, rfl⟩) h0 h1 h2 (by simp) (by simp)
  simp only [Instr.sliceAt, Instr.slice, Sem.run_bind, run_und hu, Result.andThen_ok, Option.isSome_none, Bool.false_eq_true, if_false, hb, Sem.run_pure]

theorem slCut_sound {t el : TypeId} {lo hi mx : Option Value} {l hh m : Option Int} {s : Value} {k : Value → Prop} (hu : P.underlying t = some (.slice el)) (hkn : known P el = true)
    (e1 : (lo = none ∧ l = none) ∨ ∃ j n, lo = some (.int j n) ∧ l = some n) (e2 : (hi = none ∧ hh = none) ∨ ∃ j n, hi = some (.int j n) ∧ hh = some n)
    (e3 : (mx = none ∧ m = none) ∨ ∃ j n, mx = some (.int j n) ∧ m = some n) (hk : slCutW s l hh m (szOf P el) k) :
    ∃ v, (Instr.sliceAt t s lo hi mx).run P w = .ok v w ∧ k v := by
  unfold slCutW at hk
  split at hk
  · rename_i b len cap
    obtain ⟨h0, h1, h2, h3, h4, hk⟩ := hk
    refine ⟨_, ?_, hk⟩
    have hb := bounds_run (P := P) (w := w) (sl := true) (len := len) (cap := cap) e1 e2 e3 h0 h1 h2 h3 h4
    simp only [Instr.sliceAt, Instr.slice, Sem.run_bind, run_und hu, Result.andThen_ok, hb, Sem.run_pure, known_run hkn]
  · exact hk.elim

theorem slAt_sound {t el : TypeId} {s : Value} {j : IntKind} {n : Int} {k : Addr → Prop} (hu : P.underlying t = some (.slice el)) (hkn : known P el = true) (hk : slAtW s n (szOf P el) k) :
    ∃ a, (Instr.indexAt t s (.int j n)).run P w = .ok (.pointer (some a)) w ∧ k a := by
  unfold slAtW at hk
  split at hk
  · obtain ⟨h0, h1, hk⟩ := hk
    refine ⟨_, ?_, hk⟩
    simp [Instr.indexAt, asIntOf, run_und hu, h0, h1, known_run hkn]
  · exact hk.elim

theorem arAt_sound {t el : TypeId} {len : Nat} {p : Addr} {j : IntKind} {n : Int} (hu : P.underlying t = some (.array len el)) (hkn : known P el = true) (h2 : 2 ≤ len) (h0 : 0 ≤ n) (h1 : n < (len : Int)) :
    (Instr.indexAt t (.pointer (some p)) (.int j n)).run P w = .ok (.pointer (some (p.add (n.toNat * szOf P el)))) w := by
  simp [Instr.indexAt, asIntOf, run_und hu, h0, h1, known_run hkn, Instr.sureAddr]
end Go.Proofs.YtkgjpdadeakacaaDoor.Am
