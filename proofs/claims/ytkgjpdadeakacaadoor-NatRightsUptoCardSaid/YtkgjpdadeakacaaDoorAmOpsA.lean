/-
  Each operation's reading holds of the model's run of it: values, memory.
-/
import Derived.Test.YtkgjpdadeakacaaDoorAmRel
namespace Go.Proofs.YtkgjpdadeakacaaDoor.Am
open Go
set_option linter.unusedSimpArgs false

/-- A run comes to a value at which k holds. -/
def Good (h : H) (w : World) (r : Result Value) (k : Kv) : Prop := ∃ v w' h', r = .ok v w' ∧ k v h' ∧ Rel h' w' ∧ Frame h w h' w'
theorem Good.pure {h : H} {w : World} (r : Rel h w) {v : Value} {k : Kv} (hk : k v h) : Good h w (.ok v w) k := ⟨v, w, h, rfl, hk, r, Frame.refl h w⟩
theorem Good.same {h : H} {w w' : World} (r : Rel h w) (s : SameHeap w w') {v : Value} {k : Kv} (hk : k v h) : Good h w (.ok v w') k := ⟨v, w', h, rfl, hk, r.same s, Frame.same s⟩
theorem Good.mono {h : H} {w : World} {r : Result Value} {k k' : Kv} (g : Good h w r k) (hk : ∀ v h, k v h → k' v h) : Good h w r k' :=
  let ⟨v, w', h', e, hv, r, f⟩ := g; ⟨v, w', h', e, hk _ _ hv, r, f⟩

section types
variable {P : Program} {w : World}
theorem run_und {t : TypeId} {d : TypeDesc} (h : P.underlying t = some d) : (underlying t).run P w = .ok d w := by simp [underlying, h]
theorem info_of_und {t : TypeId} {d : TypeDesc} (h : P.underlying t = some d) : ∃ i, P.info? t = some i := by
  unfold Program.underlying at h
  cases hi : P.info? t with
  | none => simp [hi] at h
  | some i => exact ⟨i, rfl⟩
theorem run_size {t : TypeId} {d : TypeDesc} (h : P.underlying t = some d) : (sizeOf t).run P w = .ok (szOf P t) w := by
  obtain ⟨i, hi⟩ := info_of_und h
  simp [sizeOf, typeInfo, hi, szOf, Program.cellsOf]
theorem run_agg {t : TypeId} {d : TypeDesc} (h : P.underlying t = some d) : (isAgg t).run P w = .ok (aggB P t) w := by
  unfold isAgg aggB
  simp only [Sem.run_bind, run_und h, Result.andThen_ok]
  cases d <;> simp [h]
theorem run_zero {t : TypeId} {z : Value} (h : zeroV P t = some z) : (zeroValue t).run P w = .ok z w := by
  unfold zeroV at h
  cases hi : P.info? t with
  | none => simp [hi] at h
  | some i => simp [hi] at h; simp [zeroValue, typeInfo, hi, h]
theorem zOk_spec {t : TypeId} (h : zOk P t = true) : ∃ z, zeroV P t = some z ∧ zeroL P t = z.cells.toList ∧ z.cells.size = szOf P t ∧ 0 < szOf P t := by
  unfold zOk at h
  cases hz : zeroV P t with
  | none => simp [hz] at h
  | some z =>
    simp [hz, zeroL] at h
    exact ⟨z, rfl, by simp [zeroL, hz], h⟩
theorem info_of_zero {t : TypeId} {z : Value} (h : zeroV P t = some z) : ∃ i, P.info? t = some i := by
  unfold zeroV at h
  cases hi : P.info? t with
  | none => simp [hi] at h
  | some i => exact ⟨i, rfl⟩
theorem run_size' {t : TypeId} {z : Value} (h : zeroV P t = some z) : (sizeOf t).run P w = .ok (szOf P t) w := by
  obtain ⟨i, hi⟩ := info_of_zero h
  simp [sizeOf, typeInfo, hi, szOf, Program.cellsOf]
theorem run_bytes {t : TypeId} {z : Value} (h : zeroV P t = some z) : ∃ i, (typeInfo t).run P w = .ok i w ∧ i.bytes = bytesOf P t := by
  obtain ⟨i, hi⟩ := info_of_zero h
  exact ⟨i, by simp [typeInfo, hi], by simp [bytesOf, Program.bytesOf, hi]⟩
end types

section mem
variable {P : Program} {h : H} {w : World}

theorem new_good (r : Rel h w) {vs : List Value} {t : TypeId} {k : Kv} (hk : newW h vs k) :
    Good h w (.ok (.pointer (some ⟨w.heap.size, 0, none⟩)) (w.alloc (.cells vs.toArray t))) k :=
  have n := New.alloc w (.cells vs.toArray t)
  ⟨_, _, h.set w.heap.size (.cells vs), rfl, hk _ r.fresh, r.new n ⟨t, (0, 0), rfl, by simp⟩, Frame.new r n⟩

theorem alloc_sound (r : Rel h w) {t : TypeId} {k : Kv} (hz : zOk P t = true) (hk : newW h (zeroL P t) k) : Good h w ((Instr.alloc t true (.tuple #[])).run P w) k := by
  obtain ⟨z, h1, h2, _, _⟩ := zOk_spec hz
  have e : (Instr.alloc t true (.tuple #[])).run P w = .ok (.pointer (some ⟨w.heap.size, 0, none⟩)) (w.alloc (.cells (zeroL P t).toArray t)) := by
    simp [Instr.alloc, run_zero h1, newVar, newRow, h2]
  rw [e]; exact new_good r hk

theorem box_sound (r : Rel h w) {t : TypeId} {v : Value} {vs : List Value} {k : Kv} (hv : v.cells.toList = vs) (hk : newW h vs k) : Good h w ((Instr.box t v).run P w) k := by
  have e : (Instr.box t v).run P w = .ok (.pointer (some ⟨w.heap.size, 0, none⟩)) (w.alloc (.cells vs.toArray t)) := by
    simp [Instr.box, newVar, newRow, ← hv]
  rw [e]; exact new_good r hk

theorem load_sound_agg (r : Rel h w) {t : TypeId} {a : Addr} {vs : List Value} (ht : aggB P t = true) (hv : rdN h a (szOf P t) = some vs) :
    (Instr.loadAt t (.pointer (some a))).run P w = .ok (.agg vs.toArray) w := by
  have hd : ∃ d, P.underlying t = some d := by
    unfold aggB at ht; cases hu : P.underlying t with
    | none => simp [hu] at ht
    | some d => exact ⟨d, rfl⟩
  obtain ⟨d, hd⟩ := hd
  simp [Instr.loadAt, Instr.sureAddr, loadVar, run_agg hd, ht, run_size hd, loadCells_sound r hv]

theorem load_sound_one (r : Rel h w) {t : TypeId} {a : Addr} {v : Value} {d : TypeDesc} (hd : P.underlying t = some d) (ht : aggB P t = false) (hv : rd h a = some v) :
    (Instr.loadAt t (.pointer (some a))).run P w = .ok v w := by
  simp [Instr.loadAt, Instr.sureAddr, loadVar, run_agg hd, ht, rd_sound r hv]

theorem add_zero_addr (a : Addr) : a.add 0 = a := by simp [Addr.add]

theorem store_sound_agg (r : Rel h w) {t : TypeId} {a : Addr} {u : Value} {cs : List Value} {h' : H} {d : TypeDesc} (hd : P.underlying t = some d) (hu : u = .agg cs.toArray) (hl : cs.length = szOf P t)
    (h1 : cs.all one = true) (hw : wr h a cs = some h') : ∃ w', (Instr.storeAt t (.pointer (some a)) u).run P w = .ok () w' ∧ Rel h' w' ∧ Frame h w h' w' := by
  subst hu
  obtain ⟨w', e, r', f⟩ := wr_sound (P := P) r hw h1
  refine ⟨w', ?_, r', f⟩
  simp [Instr.storeAt, Instr.sureAddr, storeVar, Value.cells, run_size hd, hl, e]

theorem store_sound_one (r : Rel h w) {t : TypeId} {a : Addr} {u : Value} {h' : H} {d : TypeDesc} (hd : P.underlying t = some d) (h1 : one u = true) (hs : szOf P t = 1)
    (hw : wr1 h a u = some h') : ∃ w', (Instr.storeAt t (.pointer (some a)) u).run P w = .ok () w' ∧ Rel h' w' ∧ Frame h w h' w' := by
  obtain ⟨w', e, r', f⟩ := wr1_sound (P := P) r hw h1
  refine ⟨w', ?_, r', f⟩
  have e2 : (storeCells a [u]).run P w = .ok () w' := by simp only [storeCells, Sem.run_bind, add_zero_addr, e, Result.andThen_ok, Sem.run_pure]
  simp [Instr.storeAt, Instr.sureAddr, storeVar, one_cells h1, run_size hd, hs, e2]

/-! parts laid into a row -/
theorem foldl_set (vs : List Value) : ∀ (j off : Nat) (cs : Array Value), off + j + vs.length ≤ cs.size →
    ((vs.zipIdx j).foldl (fun (cs : Array Value) (x : Value × Nat) => cs.setIfInBounds (off + x.2) x.1) cs).toList = splice cs.toList (off + j) vs := by
  induction vs with
  | nil => intro j off cs _; simp [splice_nil]
  | cons v vs ih =>
    intro j off cs hl
    simp only [List.length_cons] at hl
    rw [List.zipIdx_cons, List.foldl_cons, ih (j + 1) off _ (by simp; omega)]
    rw [Array.toList_setIfInBounds, show off + (j + 1) = off + j + 1 by omega]
    exact splice_cons _ _ _ _ (by simp; omega)

theorem fill_cons {place : Nat → Option (Nat × Nat)} {cs : List Value} {i : Nat} {v : Value} {vs : List Value} {ps : List (Nat × Value)} {off n : Nat}
    (hp : place i = some (off, n)) (hv : v.cells.toList = vs) (hn : vs.length = n) (hl : off + n ≤ cs.length) :
    Instr.fill place cs.toArray ((i, v) :: ps) = Instr.fill place (splice cs off vs).toArray ps := by
  have hs : v.cells.size = vs.length := by rw [← hv]; simp
  have e : (v.cells.zipIdx.foldl (fun (cs : Array Value) (x : Value × Nat) => cs.setIfInBounds (off + x.2) x.1) cs.toArray) = (splice cs off vs).toArray := by
    apply Array.toList_inj.mp
    rw [← Array.foldl_toList, Array.toList_zipIdx, hv]
    have := foldl_set vs 0 off cs.toArray (by simp; omega)
    simpa using this
  simp only [Instr.fill, hp, hs, hn, List.size_toArray]
  rw [if_neg (by simp; omega)]
  rw [← e]

theorem fillW_sound {place : Nat → Option (Nat × Nat × Bool)} {pl : Nat → Option (Nat × Nat)} {e : Env} {ρ : Operand → Value} (hev : ∀ x k, ev e x k → k (ρ x))
    (hpl : ∀ i off n b, place i = some (off, n, b) → pl i = some (off, n) ∧ (b = false → n = 1)) :
    ∀ (ps : List (Nat × Operand)) (cs : List Value) (k : List Value → Prop), fillW place e ps cs k →
      ∃ out, Instr.fill pl cs.toArray (ps.map fun x => (x.1, ρ x.2)) = some out.toArray ∧ k out
  | [], cs, k, hk => ⟨cs, by simp [Instr.fill], hk⟩
  | (i, x) :: ps, cs, k, hk => by
    simp only [fillW] at hk
    have hk := hev _ _ hk
    split at hk
    · exact hk.elim
    · rename_i off n hp
      unfold aggW at hk
      split at hk
      · rename_i vs hv
        obtain ⟨hn, hl, hk⟩ := hk
        obtain ⟨out, he, hko⟩ := fillW_sound hev hpl ps _ k hk
        refine ⟨out, ?_, hko⟩
        rw [List.map_cons, fill_cons (hpl _ _ _ _ hp).1 (vs := vs.toList) (by rw [hv]; rfl) hn hl]; exact he
      · exact hk.elim
    · rename_i off n hp
      obtain ⟨h1, hl, hk⟩ := hk
      obtain ⟨out, he, hko⟩ := fillW_sound hev hpl ps _ k hk
      obtain ⟨hp1, hp2⟩ := hpl _ _ _ _ hp
      refine ⟨out, ?_, hko⟩
      have := hp2 rfl
      rw [List.map_cons, fill_cons hp1 (vs := [ρ x]) (by rw [one_cells h1]) (by simp [this]) (by omega)]; exact he
end mem
end Go.Proofs.YtkgjpdadeakacaaDoor.Am
