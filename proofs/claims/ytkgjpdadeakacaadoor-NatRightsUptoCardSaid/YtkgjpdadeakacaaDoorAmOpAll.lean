/-
  An operation's reading holds of the model's step: every operation.
-/
import Derived.Test.YtkgjpdadeakacaaDoorAmOp
namespace Go.Proofs.YtkgjpdadeakacaaDoor.Am
open Go
set_option linter.unusedSimpArgs false
variable {P : Program} {h : H} {w : World} {C : Orc} {k : Kv} {kp : Kp} {next : Act → World → Prop} {Q : Exit → Act → World → Prop}

theorem und_of_agg {t : TypeId} (ht : aggB P t = true) : ∃ d, P.underlying t = some d := by
  unfold aggB at ht
  cases hu : P.underlying t with
  | none => simp [hu] at ht
  | some d => exact ⟨d, rfl⟩

theorem optI_inv' {v : Option Value} {k : Option Int → Prop} (hk : optI v k) : ∃ l, ((v = none ∧ l = none) ∨ ∃ j n, v = some (.int j n) ∧ l = some n) ∧ k l := by
  rcases optI_inv hk with ⟨e, hk⟩ | ⟨j, n, e, hk⟩
  · exact ⟨none, .inl ⟨e, rfl⟩, hk⟩
  · exact ⟨some n, .inr ⟨j, n, e, rfl⟩, hk⟩

theorem str_get (s : ByteArray) (i : Nat) (hi : i < s.size) : s[i]? = some (s.get! i) := by
  have h1 : i < s.data.size := hi
  rw [getElem?_pos s i hi]
  congr 1
  show s.data[i] = s.data[i]!
  exact (getElem!_pos s.data i h1).symm

theorem exLeaf_und {t : TypeId} {φ : Value → Prop} (hd : (P.underlying t).isSome = true) (hk : exLeaf P t φ) : ∃ d, P.underlying t = some d ∧ ∃ v, φ v := by
  obtain ⟨d, hd⟩ := Option.isSome_iff_exists.mp hd
  exact ⟨d, hd, exLeaf_inv hk⟩

theorem methF_run {u : TypeId} {x : Value} {name : String} {f : FuncId} (hm : methF P u name = some f) (n : Nat) : (method (n + 1) u x name).run P w = .ok (f, x) w := by
  unfold methF at hm
  cases hi : P.info? u with
  | none => simp [hi] at hm
  | some i =>
    simp only [hi, Option.bind_some] at hm
    cases hf : i.methods.find? (·.name == name) with
    | none => simp [hf] at hm
    | some m =>
      obtain ⟨mn, sig, path, func⟩ := m
      simp only [hf] at hm
      cases func with
      | none => simp at hm
      | some fp =>
        obtain ⟨g, ptr⟩ := fp
        simp only at hm
        have hinfo : (typeInfo u).run P w = .ok i w := by simp [typeInfo, hi]
        cases hp : path.isEmpty with
        | false => simp [hp] at hm
        | true =>
          have hpe : path.toList = [] := by
            have := Array.isEmpty_iff.mp hp
            simp [this]
          cases hu : P.underlying u with
          | none => simp [hp, hu] at hm
          | some d =>
            cases ptr with
            | true =>
              cases d <;> simp [hp, hu] at hm
              subst hm
              unfold method
              simp only [Sem.run_bind, hinfo, Result.andThen_ok, hf, hpe, follow, Sem.run_pure, receiverAt, run_und hu, Place.get]
            | false =>
              cases d <;> simp [hp, hu] at hm <;>
                (subst hm
                 unfold method
                 simp only [Sem.run_bind, hinfo, Result.andThen_ok, hf, hpe, follow, Sem.run_pure, receiverAt, run_und hu, Place.get])

theorem blt_sound (r : Rel h w) {o : Oper} {a : Act} {b : Builtin} {ts : List TypeId} {vs : List Value} {consts : Array Bool} (hk : bltW P b ts vs h k kp)
    (hn : ∀ v h' w', k v h' → Rel h' w' → Frame h w h' w' → next (a.put o.dst v) w') (hp : ∀ c h' w', kp c h' → Rel h' w' → Frame h w h' w' → Q (.panic c) a w') :
    o.upon P a next Q ((builtin b ts.toArray o.type consts vs.toArray).run P w) := by
  unfold bltW at hk
  split at hk
  · rename_i t v
    refine upon_pure r (s := Builtin.len_ #[t] o.type #[v]) ?_ hn
    split at hk
    · rename_i hu; obtain ⟨s, rfl, hk⟩ := strW_inv hk; exact ⟨_, by simp [Builtin.len_, run_und hu, goInt], hk⟩
    · rename_i hu; obtain ⟨_, _, _, rfl, hk⟩ := lenW_inv hk; exact ⟨_, by simp [Builtin.len_, run_und hu, goInt], hk⟩
    · rename_i hu; exact ⟨_, by simp [Builtin.len_, run_und hu, goInt], hk⟩
    · rename_i hu
      split at hk
      · exact ⟨_, by simp [Builtin.len_, run_und hu, goInt], hk⟩
      · rename_i m
        obtain ⟨es, cl, hm, hk⟩ := hk
        have hw := r _ _ hm
        simp only [OMatch] at hw
        refine ⟨_, ?_, hk⟩
        simp [Builtin.len_, run_und hu, goInt, getObj, Sem.run, hw]
      · exact hk.elim
    · exact hk.elim
  · rename_i t u s x
    split at hk
    · rename_i el hel hz
      simp only [hel, Option.getD_some, Bool.and_eq_true] at hz
      rcases slenW_inv hk with ⟨_, n, _, hx, hk⟩ | ⟨st, hx, hk⟩
      · exact upon_good (s := Builtin.append_ #[t, u] o.type #[s, x]) (append_sound r hel hz.1 hz.2 (by rw [hx]; rfl) hk) hn
      · exact upon_good (s := Builtin.append_ #[t, u] o.type #[s, x]) (append_sound r hel hz.1 hz.2 (by rw [hx]; rfl) hk) hn
    · exact hk.elim
  · rename_i t u d x
    split at hk
    · rename_i el hel hz
      simp only [hel, Option.getD_some] at hz
      obtain ⟨n, hx, hk⟩ : ∃ n, slenW x (· = n) ∧ slenW d fun m => srcW h (szOf P el) x (min n m) fun ws => cpW h d n ws k := by
        rcases slenW_inv hk with ⟨_, n, _, hx, hk⟩ | ⟨st, hx, hk⟩
        · exact ⟨n, by rw [hx]; rfl, hk⟩
        · exact ⟨_, by rw [hx]; rfl, hk⟩
      obtain ⟨m, hd, hk⟩ : ∃ m, slenW d (· = m) ∧ srcW h (szOf P el) x (min n m) fun ws => cpW h d n ws k := by
        rcases slenW_inv hk with ⟨_, n, _, hx, hk⟩ | ⟨st, hx, hk⟩
        · exact ⟨_, by rw [hx]; rfl, hk⟩
        · exact ⟨_, by rw [hx]; rfl, hk⟩
      exact upon_good (s := Builtin.copy_ #[t, u] o.type #[d, x]) (copy_sound r hel hz hx hd hk) hn
    · exact hk.elim
  · refine upon_pure r (s := Builtin.min_ ts.toArray o.type vs.toArray) ?_ hn
    unfold minMax at hk
    split at hk
    · obtain ⟨v, hv, hk⟩ := minMaxGo_run (P := P) (w := w) _ _ _ hk
      exact ⟨v, by simpa [Builtin.min_] using hv, hk⟩
    · exact hk.elim
  · refine upon_pure r (s := Builtin.max_ ts.toArray o.type vs.toArray) ?_ hn
    unfold minMax at hk
    split at hk
    · obtain ⟨v, hv, hk⟩ := minMaxGo_run (P := P) (w := w) _ _ _ hk
      exact ⟨v, by simpa [Builtin.max_] using hv, hk⟩
    · exact hk.elim
  · rename_i t v
    have e : (builtin .panic ts.toArray o.type consts #[.iface t v]).run P w = .halt (.panic (.iface t v)) w := by simp [builtin, Instr.panic]
    refine (congrArg (o.upon P a next Q) e).mpr ?_
    rw [Oper.upon_panic]
    exact hp _ _ _ hk r (Frame.refl _ _)
  · exact hk.elim

theorem opW_sound (hC : Sound P C) {o : Oper} {e : Env} {a : Act} (he : EnvR e a.tmps) (r : Rel h w) (hk : opW P C o e h k kp)
    (hn : ∀ v h' w', k v h' → Rel h' w' → Frame h w h' w' → next (a.put o.dst v) w') (hp : ∀ c h' w', kp c h' → Rel h' w' → Frame h w h' w' → Q (.panic c) a w') :
    o.wp P a w next Q := by
  have hev : ∀ x k, ev e x k → k (a.eval x) := fun x k hk => ev_inv he hk
  unfold Oper.wp
  unfold opW at hk
  unfold execOp
  cases ho : o.op <;> simp only [ho] at hk ⊢ <;> try (exact hk.elim)
  case move x => exact hn _ _ _ (hev _ _ hk) r (Frame.refl _ _)
  case assign x => exact hn _ _ _ (hev _ _ hk) r (Frame.refl _ _)
  case pick c x y =>
    obtain ⟨t, hc, hk⟩ := boolW_inv (hev _ _ hk)
    cases t
    · simp only [cond_false] at hk
      simp only [hc, asBool, Sem.run_bind, Sem.run_pure, Result.andThen_ok, Bool.false_eq_true, if_false]
      exact hn _ _ _ (hev _ _ hk) r (Frame.refl _ _)
    · simp only [cond_true] at hk
      simp only [hc, asBool, Sem.run_bind, Sem.run_pure, Result.andThen_ok, if_true]
      exact hn _ _ _ (hev _ _ hk) r (Frame.refl _ _)
  case alloc t =>
    split at hk
    · rename_i hz; exact upon_good (alloc_sound r hz hk) hn
    · exact hk.elim
  case box t x =>
    have hk := hev _ _ hk
    split at hk
    · obtain ⟨cs, hv, hk⟩ := aggW_inv hk
      exact upon_good (box_sound r (by rw [hv]; simp [Value.cells]) hk) hn
    · exact upon_good (box_sound r (by rw [one_cells hk.1]) hk.2) hn
  case build t ps =>
    split at hk
    · rename_i hz hf
      obtain ⟨out, hr, hko⟩ := build_sound (w := w) hev hz hf hk
      refine upon_pure r (s := Instr.build t (ps.map fun (i, x) => (i, a.eval x))) ⟨.agg out.toArray, ?_, hko⟩ hn
      have hpe : (ps.map fun (i, x) => (i, a.eval x)) = ((ps.toList.map fun x => (x.1, a.eval x.2)).toArray) := by
        apply Array.toList_inj.mp; simp
      rw [hpe]; exact hr
    · exact hk.elim
  case buildSlice t n ps =>
    split at hk
    · rename_i el hel hz hn'
      simp only [hel, Option.getD_some, decide_eq_true_eq] at hz hn'
      have hpe : (ps.map fun (i, x) => (i, a.eval x)) = ((ps.toList.map fun x => (x.1, a.eval x.2)).toArray) := by
        apply Array.toList_inj.mp; simp
      rw [hpe]
      exact upon_good (buildSlice_sound r hev hel hz hn' hk) hn
    · exact hk.elim
  case load t x =>
    obtain ⟨ad, hx, hk⟩ := ptrW_inv (hev _ _ hk)
    rw [hx]
    split at hk
    · rename_i ht
      split at hk
      · obtain ⟨vs, hv, hk⟩ := exL_inv hk
        exact upon_pure r (s := Instr.loadAt t (.pointer (some ad))) ⟨_, load_sound_agg r ht hv, hk⟩ hn
      · exact hk.elim
    · rename_i ht
      split at hk
      · rename_i d hd
        obtain ⟨v, hv, hk⟩ := exLeaf_inv hk
        exact upon_pure r (s := Instr.loadAt t (.pointer (some ad))) ⟨_, load_sound_one r hd ht hv, hk⟩ hn
      · exact hk.elim
  case store t x y =>
    obtain ⟨ad, hx, hk⟩ := ptrW_inv (hev _ _ hk)
    have hk := hev _ _ hk
    rw [hx]
    split at hk
    · rename_i ht
      obtain ⟨cs, hv, hl, h1, h', hw, hk⟩ := aggW_inv hk
      obtain ⟨d, hd⟩ := und_of_agg ht
      obtain ⟨w', hr, r', f⟩ := store_sound_agg r hd hv hl h1 hw
      simp only [Sem.run_bind, hr, Result.andThen_ok, Sem.run_pure]
      exact hn _ _ _ hk r' f
    · split at hk
      · rename_i d hd
        obtain ⟨h1, hs, h', hw, hk⟩ := hk
        obtain ⟨w', hr, r', f⟩ := store_sound_one r hd h1 hs hw
        simp only [Sem.run_bind, hr, Result.andThen_ok, Sem.run_pure]
        exact hn _ _ _ hk r' f
      · exact hk.elim
  case nilCheck x =>
    obtain ⟨h1, hk⟩ := hev _ _ hk
    have hr : (match a.eval x with
      | .pointer none | .nilIface | .nilFunc => runtimePanic .nilDeref
      | .func (.method name) first captured => match (first[0]? : Option Value) with
        | some .nilIface => runtimePanic .nilDeref
        | some (.iface t w) => do
          if (← nilAhead ((← program).types.size + Made.depth) t w name) != some false then
            unsupported (.noEntry "op/nilCheck.the method's receiver behind this interface value is a nil pointer, or cannot be seen to be none, and the arguments act or may panic (ledger 612)")
          pure (Next.value (.func (.method name) first captured))
        | _ => pure (Next.value (.func (.method name) first captured))
      | x => pure (Next.value x) : Sem Next).run P w = .ok (.value (a.eval x)) w := by
      revert h1
      cases hv : a.eval x <;> intro h1 <;> simp [nonNil] at h1 ⊢
      · rename_i p; cases p <;> simp [nonNil] at h1 ⊢
      · rename_i fn first cap; cases fn <;> simp [nonNil] at h1 ⊢
    refine (congrArg (o.upon P a next Q) hr).mpr ?_
    exact hn _ _ _ hk r (Frame.refl _ _)
  case binOp op t x y yt =>
    have hk := hev _ _ (hev _ _ hk)
    split at hk
    · rename_i ht
      exact upon_pure r (s := do eqGuard op t x y (a.eval x) (a.eval y); Go.binOp op t (a.eval x) (a.eval y)) (binW_sound ht hk) hn
    · exact hk.elim
  case unOp op t x => exact upon_pure r (unW_sound (hev _ _ hk)) hn
  case convert s d x => exact upon_good (conv_sound r (hev _ _ hk)) hn
  case makeInterface t x =>
    have hk := hev _ _ hk
    split at hk
    · exact hk.elim
    · rename_i d hni hd
      refine upon_pure r (s := Instr.makeInterface t (a.eval x)) ⟨_, ?_, hk⟩ hn
      unfold Instr.makeInterface
      cases d <;> first
        | (exact absurd rfl (hni _))
        | simp [run_und hd]
    · exact hk.elim
  case makeFunc fn first cap =>
    cases fn <;> simp only at hk <;> try (exact hk.elim)
    have hk := evs_inv he (evs_inv he hk)
    refine upon_pure r (s := Instr.makeFunc (.func _) (first.map a.eval) (cap.map a.eval)) ⟨_, rfl, ?_⟩ hn
    have e1 : (first.toList.map a.eval).toArray = first.map a.eval := by apply Array.toList_inj.mp; simp
    have e2 : (cap.toList.map a.eval).toArray = cap.map a.eval := by apply Array.toList_inj.mp; simp
    rw [e1, e2] at hk; exact hk
  case makeSlice t l c =>
    obtain ⟨j1, n, h1, hk⟩ := intW_inv (hev _ _ (hev _ _ hk))
    obtain ⟨j2, m, h2, hk⟩ := intW_inv hk
    rw [h1, h2]
    split at hk
    · rename_i el hel hz
      simp only [hel, Option.getD_some] at hz
      exact upon_good (mkSlice_sound r hel hz hk) hn
    · exact hk.elim
  case slice t x lo hi mx =>
    have hk := evo_inv he (evo_inv he (evo_inv he (hev _ _ hk)))
    obtain ⟨l, e1, hk⟩ := optI_inv' hk
    obtain ⟨hh, e2, hk⟩ := optI_inv' hk
    obtain ⟨m, e3, hk⟩ := optI_inv' hk
    split at hk
    · rename_i hu
      obtain ⟨s, hs, hk⟩ := strW_inv hk
      have e3' : mx.map a.eval = none := by
        rcases e3 with ⟨e, _⟩ | ⟨_, _, _, e⟩
        · exact e
        · cases e
      rw [hs, e3']
      obtain ⟨v, hr, hk⟩ := strCut_sound (P := P) (w := w) hu e1 e2 hk
      exact upon_pure r (s := Instr.sliceAt t (.string s) (lo.map a.eval) (hi.map a.eval) none) ⟨_, hr, hk⟩ hn
    · rename_i el hu
      split at hk
      · rename_i hkn
        exact upon_pure r (s := Instr.sliceAt t (a.eval x) (lo.map a.eval) (hi.map a.eval) (mx.map a.eval)) (slCut_sound hu hkn e1 e2 e3 hk) hn
      · exact hk.elim
    · exact hk.elim
  case fieldAddr s x f =>
    obtain ⟨ad, hx, hk⟩ := ptrW_inv (hev _ _ hk)
    rw [hx]
    split at hk
    · rename_i fs hu
      split at hk
      · rename_i fd hf
        split at hk
        · exact hk.elim
        · rename_i n hsz
          refine upon_pure r (s := Instr.fieldAt s (.pointer (some ad)) f) ⟨_, ?_, hk⟩ hn
          have hkn : known P fd.type = true := by
            unfold known
            cases hi : P.info? fd.type with
            | some i => rfl
            | none => simp [szOf, Program.cellsOf, hi] at hsz
          simp [Instr.fieldAt, run_und hu, hf, Instr.sureAddr, fieldPlace, known_run hkn, hsz]
      · exact hk.elim
    · exact hk.elim
  case field t x f =>
    obtain ⟨cs, hx, hk⟩ := aggW_inv (hev _ _ hk)
    rw [hx]
    split at hk
    · rename_i fs hu
      split at hk
      · rename_i fd hf
        split at hk
        · rename_i d hd
          obtain ⟨v, hr, hk⟩ := part_run (P := P) (w := w) hd hk
          refine upon_pure r (s := Instr.field t (.agg cs.toArray) f) ⟨v, ?_, hk⟩ hn
          simp only [Instr.field, Sem.run_bind, run_und hu, Result.andThen_ok, hf, asAgg, Sem.run_pure, hr]
        · exact hk.elim
      · exact hk.elim
    · exact hk.elim
  case indexAddr t x i =>
    obtain ⟨j, n, hi, hk⟩ := intW_inv (hev _ _ (hev _ _ hk))
    rw [hi]
    split at hk
    · rename_i el hu
      split at hk
      · rename_i hkn
        obtain ⟨ad, hr, hk⟩ := slAt_sound (P := P) (w := w) (j := j) hu hkn hk
        exact upon_pure r (s := Instr.indexAt t (a.eval x) (.int j n)) ⟨_, hr, hk⟩ hn
      · exact hk.elim
    · rename_i len el hu
      split at hk
      · exact hk.elim
      · rename_i hkn
        simp only [Bool.and_eq_true, decide_eq_true_eq] at hkn
        obtain ⟨ad, hx, h0, h1, hk⟩ := ptrW_inv hk
        rw [hx]
        exact upon_pure r (s := Instr.indexAt t (.pointer (some ad)) (.int j n)) ⟨_, arAt_sound hu hkn.1 hkn.2 h0 h1, hk⟩ hn
    · exact hk.elim
  case index t x i =>
    obtain ⟨j, n, hi, hk⟩ := intW_inv (hev _ _ (hev _ _ hk))
    rw [hi]
    split at hk
    · rename_i hu
      obtain ⟨s, hs, h0, h1, hk⟩ := strW_inv hk
      rw [hs]
      refine upon_pure r (s := Instr.index t (.string s) (.int j n)) ⟨_, ?_, hk⟩ hn
      have hg : s[n.toNat]? = some (s.get! n.toNat) := by
        have hlt : n.toNat < s.size := by omega
        exact str_get s n.toNat hlt
      simp [Instr.index, asIntOf, run_und hu, h0, hg]
    · exact hk.elim
  case range t x =>
    have hk := hev _ _ hk
    split at hk
    · rename_i hu
      obtain ⟨s, hs, hk⟩ := strW_inv hk
      rw [hs]
      have nw := New.alloc w (.stringIter s 0)
      refine upon_good (s := Instr.range t (.string s)) ⟨_, _, h.set w.heap.size (.sit s 0), ?_, hk _ r.fresh, r.new nw rfl, Frame.new r nw⟩ hn
      simp [Instr.range, run_und hu]
    · exact hk.elim
  case next x b =>
    cases b with
    | false => exact hk.elim
    | true =>
      obtain ⟨ad, hx, h0, s, p, hb, hk1, hk2⟩ := ptrW_inv (hev _ _ hk)
      rw [hx]
      have hm := r _ _ hb
      obtain ⟨bl, off, sp⟩ := ad
      simp only at h0 hb hm
      subst h0
      by_cases hp : p < s.size
      · have nu : Upd w bl (.stringIter s (p + (Utf8.decode s p).2)) { w with heap := w.heap.setIfInBounds bl (.stringIter s (p + (Utf8.decode s p).2)) } := by
          have hlt := lt_of_match (o := VObj.sit s p) hm
          exact ⟨rfl, rfl, rfl, by simp, by simp [hlt], fun c hc => by simp [Array.getElem?_setIfInBounds_ne (Ne.symm hc)]⟩
        refine upon_good (s := Instr.next (.pointer (some ⟨bl, 0, sp⟩)) true o.type) ⟨_, _, h.set bl (.sit s (p + (Utf8.decode s p).2)), ?_, hk2 hp, r.upd nu rfl, Frame.upd nu hb rfl⟩ hn
        simp only [OMatch] at hm
        simp [Instr.next, getObj, setObj, Sem.run, hm, hp, goInt]
      · refine upon_pure r (s := Instr.next (.pointer (some ⟨bl, 0, sp⟩)) true o.type) ⟨_, ?_, hk1 (by omega)⟩ hn
        simp only [OMatch] at hm
        simp [Instr.next, getObj, Sem.run, hm, hp]
  case typeAssert x xt t ok => exact upon_pure r (assert_sound (hev _ _ hk)) hn
  case extract x i =>
    have hk := hev _ _ hk
    unfold extractW at hk
    split at hk
    · rename_i vs hv
      rw [hv]
      split at hk
      · rename_i v vs' hd
        refine upon_pure r (s := Instr.extract (.tuple vs) i) ⟨v, ?_, hk⟩ hn
        have : vs[i]? = some v := by
          have := congrArg (·[0]?) hd
          simpa using this
        simp [Instr.extract, this]
      · exact hk.elim
    · exact hk.elim
  case panic x =>
    have hk := hev _ _ hk
    split at hk
    · rename_i t v hv
      rw [hv]
      have e : (do pure (Next.value (← Instr.panic (.iface t v))) : Sem Next).run P w = .halt (.panic (.iface t v)) w := by simp [Instr.panic]
      rw [e, Oper.upon_panic]
      exact hp _ _ _ hk r (Frame.refl _ _)
    · exact hk.elim
  case call c =>
    have hargs : (c.args.toList.map a.eval).toArray = c.args.map a.eval := by apply Array.toList_inj.mp; simp
    cases hc : c.callee with
    | builtin b =>
      simp only [hc] at hk
      have hk := evs_inv he hk
      have e : (do let d ← resolve a.eval c o.type; invoke d.target d.args : Sem Next).run P w = (builtin b c.argTypes o.type (c.args.map fun | .const _ => true | _ => false) (c.args.map a.eval)).run P w := by
        simp only [resolve, hc, Sem.run_bind, Sem.run_pure, Result.andThen_ok, invoke]
        rfl
      rw [e, ← hargs, show c.argTypes = c.argTypes.toList.toArray by simp]
      exact blt_sound r hk hn hp
    | invoke rv name =>
      simp only [hc] at hk
      have hk := evs_inv he (hev _ _ hk)
      unfold invW at hk
      split at hk
      · rename_i u x hr
        split at hk
        · rename_i f hm
          have e : (do let d ← resolve a.eval c o.type; invoke d.target d.args : Sem Next).run P w = (callFunc f ((x :: c.args.toList.map a.eval).toArray)).run P w := by
            have h0 : (#[Value.iface u x] ++ c.args.map a.eval)[0]? = some (.iface u x) := by
              rw [Array.getElem?_append_left (by simp)]; rfl
            have h1 : (#[Value.iface u x] ++ c.args.map a.eval).extract 1 (#[Value.iface u x] ++ c.args.map a.eval).size = c.args.map a.eval := by
              apply Array.toList_inj.mp
              rw [Array.toList_extract, List.extract_eq_take_drop]
              simp [List.take_of_length_le]
            simp only [resolve, hc, hr, Sem.run_bind, Sem.run_pure, Result.andThen_ok, invoke, h0, h1, callMethod, run_program]
            rw [show P.types.size + Made.depth = (P.types.size + 99) + 1 from rfl, methF_run hm]
            simp only [Result.andThen_ok]
            congr 2
            apply Array.toList_inj.mp; simp
          rw [e]
          exact callW_sound hC r hk hn hp
        · exact hk.elim
      · exact hk.elim
    | value f =>
      cases f with
      | func g =>
        simp only [hc] at hk
        have hk := evs_inv he hk
        have e : (do let d ← resolve a.eval c o.type; invoke d.target d.args : Sem Next).run P w = (callFunc g ((c.args.toList.map a.eval).toArray)).run P w := by
          simp only [resolve, hc, Act.eval, Deferred.ofValue, Sem.run_bind, Sem.run_pure, Result.andThen_ok, invoke, hargs]
          congr 2
          simp
        rw [e]
        exact callW_sound hC r hk hn hp
      | _ =>
        simp only [hc] at hk
        have hk := evs_inv he (hev _ _ hk)
        unfold callV at hk
        split at hk
        · rename_i g first cap hf
          have e : (do let d ← resolve a.eval c o.type; invoke d.target d.args : Sem Next).run P w = (callFunc g ((first.toList ++ (c.args.toList.map a.eval ++ cap.toList)).toArray)).run P w := by
            simp only [resolve, hc, hf, Deferred.ofValue, Sem.run_bind, Sem.run_pure, Result.andThen_ok, invoke]
            congr 2
            apply Array.toList_inj.mp; simp
          rw [e]
          exact callW_sound hC r hk hn hp
        · exact hk.elim
end Go.Proofs.YtkgjpdadeakacaaDoor.Am
