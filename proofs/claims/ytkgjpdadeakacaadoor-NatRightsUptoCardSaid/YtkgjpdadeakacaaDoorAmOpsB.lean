/-
  Each operation's reading holds of the model's run of it: built values, cuts, indexes, arithmetic, conversions.
-/
import Derived.Test.YtkgjpdadeakacaaDoorAmOpsA
namespace Go.Proofs.YtkgjpdadeakacaaDoor.Am
open Go
set_option linter.unusedSimpArgs false
variable {P : Program} {h : H} {w : World}

theorem plc_spec {off i n : Nat} {t : TypeId} {b : Bool} (hp : plc P off t = some (i, n, b)) : i = off ∧ n = szOf P t ∧ (b = false → n = 1) := by
  unfold plc at hp
  split at hp <;> simp at hp
  · exact ⟨hp.1.symm, hp.2.1.symm, fun h => by simp [h] at hp⟩
  · rename_i hs
    exact ⟨hp.1.symm, by rw [hs]; exact hp.2.1.symm, fun _ => hp.2.1.symm⟩

theorem und_of_plc {off i n : Nat} {t : TypeId} {b : Bool} (hp : plc P off t = some (i, n, b)) : ∃ x, P.info? t = some x := by
  cases hi : P.info? t with
  | some x => exact ⟨x, rfl⟩
  | none =>
    simp [plc, aggB, Program.underlying, hi, szOf, Program.cellsOf] at hp

theorem places_run (w : World) : ∀ (fs : List Field), (∀ f ∈ fs, ∃ i, P.info? f.type = some i) →
    (fs.mapM (m := Sem) fun f => do pure (f.offset, ← sizeOf f.type)).run P w = .ok (fs.map fun f => (f.offset, szOf P f.type)) w
  | [], _ => by simp
  | f :: fs, hf => by
    obtain ⟨i, hi⟩ := hf f (by simp)
    have ih := places_run w fs fun g hg => hf g (by simp [hg])
    simp [sizeOf, typeInfo, hi, szOf, Program.cellsOf] at ih ⊢
    rw [ih]
    simp

theorem build_sound {t : TypeId} {e : Env} {ρ : Operand → Value} (hev : ∀ x k, ev e x k → k (ρ x)) (hz : zOk P t = true) (hf : fieldsOk P t = true) {ps : List (Nat × Operand)} {k : List Value → Prop}
    (hk : fillW (structPlace P t) e ps (zeroL P t) k) :
    ∃ out, (Instr.build t ((ps.map fun x => (x.1, ρ x.2)).toArray)).run P w = .ok (.agg out.toArray) w ∧ k out := by
  obtain ⟨z, h1, h2, _, _⟩ := zOk_spec hz
  unfold fieldsOk at hf
  unfold Instr.build
  split at hf
  · rename_i fs hu
    have hpl : ∀ i off n b, structPlace P t i = some (off, n, b) → ((fs.toList.map fun f => (f.offset, szOf P f.type)).toArray)[i]? = some (off, n) ∧ (b = false → n = 1) := by
      intro i off n b hp
      simp only [structPlace, hu] at hp
      cases hfi : fs[i]? with
      | none => simp [hfi] at hp
      | some f =>
        simp only [hfi] at hp
        obtain ⟨rfl, rfl, hb⟩ := plc_spec hp
        refine ⟨?_, hb⟩
        simp [hfi]
    obtain ⟨out, he, hko⟩ := fillW_sound hev hpl ps _ k hk
    refine ⟨out, ?_, hko⟩
    have hpr := places_run (P := P) w fs.toList (fun f hf' => Option.isSome_iff_exists.mp (by simp only [List.all_eq_true] at hf; exact hf f hf'))
    have hpa : (fs.mapM (m := Sem) fun f => do pure (f.offset, ← sizeOf f.type)).run P w = .ok ((fs.toList.map fun f => (f.offset, szOf P f.type)).toArray) w := by
      rw [Array.mapM_eq_mapM_toList]
      simp only [Sem.run_map, hpr, Result.andThen_ok]
    have hc : z.cells = (zeroL P t).toArray := by rw [h2]
    simp only [Sem.run_bind, run_zero h1, Result.andThen_ok, run_und hu, hpa, hc, he]
    rfl
  · rename_i m el hu
    obtain ⟨i, hi⟩ := Option.isSome_iff_exists.mp hf
    have hpl : ∀ i off n b, structPlace P t i = some (off, n, b) → (some (i * szOf P el, szOf P el)) = some (off, n) ∧ (b = false → n = 1) := by
      intro i off n b hp
      simp only [structPlace, hu] at hp
      obtain ⟨rfl, rfl, hb⟩ := plc_spec hp
      exact ⟨rfl, hb⟩
    obtain ⟨out, he, hko⟩ := fillW_sound (pl := fun i => some (i * szOf P el, szOf P el)) hev hpl ps _ k hk
    refine ⟨out, ?_, hko⟩
    have hc : z.cells = (zeroL P t).toArray := by rw [h2]
    have hsz : (sizeOf el).run P w = .ok (szOf P el) w := by simp [sizeOf, typeInfo, hi, szOf, Program.cellsOf]
    simp only [Sem.run_bind, run_zero h1, Result.andThen_ok, run_und hu, hsz, hc, he]
    rfl
  · simp at hf

theorem zeros_eq (z : List Value) (n : Nat) : (List.range (n * z.length)).map (fun i => z.toArray[i % z.length]!) = (List.replicate n z).flatten := by
  induction n with
  | zero => simp
  | succ n ih =>
    rw [List.replicate_succ', List.flatten_append, ← ih, Nat.succ_mul, List.range_add, List.map_append]
    congr 1
    simp only [List.map_map, List.flatten_cons, List.flatten_nil, List.append_nil]
    apply List.ext_getElem?
    intro i
    simp only [List.getElem?_map, List.getElem?_range]
    by_cases hi : i < z.length
    · simp [hi, List.getElem?_range, Nat.add_mod, Nat.mul_mod_left, Nat.mod_eq_of_lt hi]
    · simp [hi]

theorem zeroCells_eq (z : Array Value) (n : Nat) : ((Array.range (n * z.size)).map (fun i => z[i % z.size]!)) = ((List.replicate n z.toList).flatten).toArray := by
  apply Array.toList_inj.mp
  have := zeros_eq z.toList n
  simpa [Array.toList_map, Array.toList_range] using this

theorem askRoom_run (n : Nat) : (askRoom n).run P w = .ok () w := by unfold askRoom; split <;> rfl

theorem slEl {t el : TypeId} (h : elemOfSl P t = some el) : P.underlying t = some (.slice el) := by
  unfold elemOfSl at h
  split at h
  · rename_i e hu; rw [hu]; simp at h; rw [h]
  · simp at h

theorem buildSlice_sound (r : Rel h w) {t el : TypeId} {n : Nat} {e : Env} {ρ : Operand → Value} (hev : ∀ x k, ev e x k → k (ρ x)) (he : elemOfSl P t = some el) (hz : zOk P el = true)
    (hn : n * szOf P el ≤ 2 ^ 24) {ps : List (Nat × Operand)} {k : Kv}
    (hk : fillW (slicePlace P t) e ps (List.replicate n (zeroL P el)).flatten fun cs => ∀ b, h b = none → k (.slice (some ⟨b, 0, none⟩) n n) (h.set b (.cells cs))) :
    Good h w ((Instr.buildSlice t n ((ps.map fun x => (x.1, ρ x.2)).toArray)).run P w) k := by
  have hu := slEl he
  obtain ⟨z, h1, h2, h3, h4⟩ := zOk_spec hz
  have hpl : ∀ i off m b, slicePlace P t i = some (off, m, b) → (some (i * szOf P el, szOf P el)) = some (off, m) ∧ (b = false → m = 1) := by
    intro i off m b hp
    simp only [slicePlace, hu] at hp
    obtain ⟨rfl, rfl, hb⟩ := plc_spec hp
    exact ⟨rfl, hb⟩
  obtain ⟨out, hf, hko⟩ := fillW_sound (pl := fun i => some (i * szOf P el, szOf P el)) hev hpl ps _ _ hk
  have hzz : ((Array.range (n * szOf P el)).map ((if n * szOf P el = 0 then #[] else z.cells)[· % (if n * szOf P el = 0 then (#[] : Array Value) else z.cells).size]!)) = ((List.replicate n (zeroL P el)).flatten).toArray := by
    by_cases h0 : n * szOf P el = 0
    · have : n = 0 := by
        rcases Nat.mul_eq_zero.mp h0 with h | h
        · exact h
        · omega
      subst this
      simp
    · simp only [h0, if_false]
      rw [h2, ← h3]
      exact zeroCells_eq z.cells n
  have hrun : (Instr.buildSlice t n ((ps.map fun x => (x.1, ρ x.2)).toArray)).run P w = .ok (.slice (some ⟨w.heap.size, 0, none⟩) n n) (w.alloc (.cells out.toArray el)) := by
    unfold Instr.buildSlice
    simp only [Sem.run_bind, run_und hu, Result.andThen_ok, run_size' h1]
    rw [if_neg (by omega)]
    by_cases h0 : n * szOf P el = 0
    · simp only [h0, if_true] at hzz ⊢
      simp only [Sem.run_bind, Sem.run_pure, Result.andThen_ok]
      simp only [hzz, hf]
      simp only [newRow, Sem.run_bind, run_newObj_alloc, Result.andThen_ok, Sem.run_pure]
    · simp only [h0, if_false] at hzz ⊢
      simp only [Sem.run_bind, Sem.run_pure, Result.andThen_ok, run_zero h1]
      simp only [hzz, hf]
      simp only [newRow, Sem.run_bind, run_newObj_alloc, Result.andThen_ok, Sem.run_pure]
  rw [hrun]
  have nw := New.alloc w (.cells out.toArray el)
  exact ⟨_, _, h.set w.heap.size (.cells out), rfl, hko _ r.fresh, r.new nw ⟨el, (0, 0), rfl, by simp⟩, Frame.new r nw⟩
end Go.Proofs.YtkgjpdadeakacaaDoor.Am
