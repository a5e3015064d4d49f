/-
  What the partial view of memory says of the model's memory, and how reading, writing and making keep it.
-/
import Derived.Test.YtkgjpdadeakacaaDoorAmExec
import Derived.Laws.Sem
import Derived.Laws.World
import Derived.Laws.Cells
import Derived.Laws.NewFold
namespace Go.Proofs.YtkgjpdadeakacaaDoor.Am
open Go
set_option linter.unusedSimpArgs false

def OMatch (x : Option Obj) : VObj → Prop
  | .cells l => ∃ t fz, x = some (.cells l.toArray t fz) ∧ ∀ j, j < l.length → ¬ (fz.1 ≤ j ∧ j < fz.2)
  | .ro l => ∃ t fz, x = some (.cells l.toArray t fz)
  | .map es c => x = some (.map es.toArray c)
  | .sit s p => x = some (.stringIter s p)

def Rel (h : H) (w : World) : Prop := ∀ b o, h b = some o → OMatch w.heap[b]? o

/-- What may be written. -/
def VObj.rw : VObj → Bool
  | .ro _ => false
  | _ => true

structure Frame (h : H) (w : World) (h' : H) (w' : World) : Prop where
  os : w'.os = w.os
  tape : w'.tape = w.tape
  output : w'.output = w.output
  size : w.heap.size ≤ w'.heap.size
  keep : ∀ b, b < w.heap.size → (h b = none ∨ ∃ l, h b = some (.ro l)) → w'.heap[b]? = w.heap[b]?
  dom : ∀ b, b < w.heap.size → h b = none → h' b = none
  ro : ∀ b l, h b = some (.ro l) → h' b = some (.ro l)

theorem Frame.refl (h : H) (w : World) : Frame h w h w := ⟨rfl, rfl, rfl, Nat.le_refl _, fun _ _ _ => rfl, fun _ _ h => h, fun _ _ h => h⟩

theorem Frame.trans {h h' h'' : H} {w w' w'' : World} (f : Frame h w h' w') (g : Frame h' w' h'' w'') : Frame h w h'' w'' where
  os := g.os.trans f.os
  tape := g.tape.trans f.tape
  output := g.output.trans f.output
  size := Nat.le_trans f.size g.size
  keep := fun b hb hn => by
    rw [g.keep b (Nat.lt_of_lt_of_le hb f.size), f.keep b hb hn]
    rcases hn with hn | ⟨l, hl⟩
    · exact .inl (f.dom b hb hn)
    · exact .inr ⟨l, f.ro b l hl⟩
  dom := fun b hb hn => g.dom b (Nat.lt_of_lt_of_le hb f.size) (f.dom b hb hn)
  ro := fun b l hl => g.ro b l (f.ro b l hl)

theorem lt_of_match {w : World} {b : Nat} {o : VObj} (h : OMatch w.heap[b]? o) : b < w.heap.size := by
  rcases Nat.lt_or_ge b w.heap.size with hb | hb
  · exact hb
  · rw [Array.getElem?_eq_none hb] at h
    cases o <;> simp [OMatch] at h

theorem Rel.lt {h : H} {w : World} (r : Rel h w) {b : Nat} {o : VObj} (hb : h b = some o) : b < w.heap.size := lt_of_match (r b o hb)
theorem Rel.fresh {h : H} {w : World} (r : Rel h w) : h w.heap.size = none := by
  cases hb : h w.heap.size with
  | none => rfl
  | some o => exact absurd (r.lt hb) (Nat.lt_irrefl _)

/-- A world whose heap is as it was. -/
structure SameHeap (w w' : World) : Prop where
  os : w'.os = w.os
  tape : w'.tape = w.tape
  output : w'.output = w.output
  heap : w'.heap = w.heap
theorem SameHeap.refl (w : World) : SameHeap w w := ⟨rfl, rfl, rfl, rfl⟩
theorem SameHeap.drew {w w' : World} (s : SameHeap w w') : SameHeap w w'.drew := ⟨s.os, s.tape, s.output, s.heap⟩
theorem Rel.same {h : H} {w w' : World} (r : Rel h w) (s : SameHeap w w') : Rel h w' := fun b o hb => by rw [s.heap]; exact r b o hb
theorem Frame.same {h : H} {w w' : World} (s : SameHeap w w') : Frame h w h w' :=
  ⟨s.os, s.tape, s.output, by rw [s.heap]; exact Nat.le_refl _, fun _ _ _ => by rw [s.heap], fun _ _ h => h, fun _ _ h => h⟩

/-- One block is another one now; one block is new. -/
structure Upd (w : World) (b : Nat) (o : Obj) (w' : World) : Prop where
  os : w'.os = w.os
  tape : w'.tape = w.tape
  output : w'.output = w.output
  size : w'.heap.size = w.heap.size
  at_ : w'.heap[b]? = some o
  far : ∀ c, c ≠ b → w'.heap[c]? = w.heap[c]?
structure New (w : World) (o : Obj) (w' : World) : Prop where
  os : w'.os = w.os
  tape : w'.tape = w.tape
  output : w'.output = w.output
  size : w'.heap.size = w.heap.size + 1
  at_ : w'.heap[w.heap.size]? = some o
  far : ∀ c, c ≠ w.heap.size → w'.heap[c]? = w.heap[c]?

theorem New.alloc (w : World) (o : Obj) : New w o (w.alloc o) :=
  ⟨rfl, rfl, rfl, by simp, by show (w.heap.push o)[_]? = _; simp, fun c hc => by
    show (w.heap.push o)[c]? = _
    rw [Array.getElem?_push]
    split
    · omega
    · rfl⟩
theorem New.drew {w w' : World} {o : Obj} (n : New w o w') : New w o w'.drew := ⟨n.os, n.tape, n.output, n.size, n.at_, n.far⟩
theorem New.of_drew {w w' : World} {o : Obj} (n : New w.drew o w') : New w o w' := ⟨n.os, n.tape, n.output, n.size, n.at_, n.far⟩

theorem Rel.new {h : H} {w w' : World} {o : Obj} {v : VObj} (r : Rel h w) (n : New w o w') (m : OMatch (some o) v) : Rel (h.set w.heap.size v) w' := by
  intro b o' hb
  unfold H.set at hb
  split at hb
  · rename_i he
    subst he
    obtain rfl := Option.some.inj hb
    rw [n.at_]; exact m
  · rename_i he
    rw [n.far b he]; exact r b o' hb
theorem Frame.new {h : H} {w w' : World} {o : Obj} {v : VObj} (r : Rel h w) (n : New w o w') : Frame h w (h.set w.heap.size v) w' where
  os := n.os
  tape := n.tape
  output := n.output
  size := by rw [n.size]; omega
  keep := fun b hb _ => n.far b (by omega)
  dom := fun b hb hn => by unfold H.set; rw [if_neg (by omega)]; exact hn
  ro := fun b l hl => by unfold H.set; rw [if_neg (by have := r.lt hl; omega)]; exact hl

theorem Rel.upd {h : H} {w w' : World} {b : Nat} {o : Obj} {v : VObj} (r : Rel h w) (n : Upd w b o w') (m : OMatch (some o) v) : Rel (h.set b v) w' := by
  intro c o' hb
  unfold H.set at hb
  split at hb
  · rename_i he
    subst he
    obtain rfl := Option.some.inj hb
    rw [n.at_]; exact m
  · rename_i he
    rw [n.far c he]; exact r c o' hb
theorem Frame.upd {h : H} {w w' : World} {b : Nat} {o : Obj} {v old : VObj} (n : Upd w b o w') (hb : h b = some old) (hw : old.rw = true) : Frame h w (h.set b v) w' where
  os := n.os
  tape := n.tape
  output := n.output
  size := by rw [n.size]; omega
  keep := fun c hc hn => n.far c fun e => by
    subst e
    rcases hn with hn | ⟨l, hl⟩
    · simp [hn] at hb
    · rw [hl] at hb; obtain rfl := Option.some.inj hb; simp [VObj.rw] at hw
  dom := fun c hc hn => by
    unfold H.set; rw [if_neg (fun e => by subst e; simp [hn] at hb)]; exact hn
  ro := fun c l hl => by
    unfold H.set
    rw [if_neg (fun e => by subst e; rw [hl] at hb; obtain rfl := Option.some.inj hb; simp [VObj.rw] at hw)]
    exact hl

/-! ### reading -/
theorem rowOf_match {w : World} {b : Nat} {x : Option VObj} {l : List Value} (hl : rowOf x = some l) (hm : ∀ o, x = some o → OMatch w.heap[b]? o) :
    ∃ t fz, w.heap[b]? = some (.cells l.toArray t fz) := by
  cases x with
  | none => simp [rowOf] at hl
  | some o =>
    have := hm o rfl
    cases o <;> simp [rowOf] at hl
    · subst hl; obtain ⟨t, fz, h, _⟩ := this; exact ⟨t, fz, h⟩
    · subst hl; obtain ⟨t, fz, h⟩ := this; exact ⟨t, fz, h⟩

theorem rd_sound {h : H} {w : World} (r : Rel h w) {a : Addr} {v : Value} (hv : rd h a = some v) : w.cell? a = some v := by
  unfold rd at hv
  split at hv
  · rename_i hs
    cases hl : rowOf (h a.block) with
    | none => simp [hl] at hv
    | some l =>
      obtain ⟨t, fz, hb⟩ := rowOf_match hl (r a.block)
      simp [hl] at hv
      simp [World.cell?, hb, hs, hv]
  · simp at hv

theorem rdN_sound {h : H} {w : World} (r : Rel h w) {a : Addr} {n : Nat} {vs : List Value} (hv : rdN h a n = some vs) :
    vs.length = n ∧ ∀ j v, vs[j]? = some v → w.cell? (a.add j) = some v := by
  unfold rdN at hv
  split at hv
  · rename_i hs
    cases hl : rowOf (h a.block) with
    | none => simp [hl] at hv
    | some l =>
      obtain ⟨t, fz, hb⟩ := rowOf_match hl (r a.block)
      simp only [hl, Option.bind_some, Option.ite_none_right_eq_some, Option.some.injEq] at hv
      obtain ⟨hle, rfl⟩ := hv
      refine ⟨by simp; omega, fun j v hj => ?_⟩
      have hspot : (a.add j).spot = none := by unfold Addr.add; split <;> simp [hs]
      have hblk : (a.add j).block = a.block := by unfold Addr.add; split <;> rfl
      have hoff : (a.add j).off = a.off + j := by unfold Addr.add; split <;> simp [*]
      rw [List.getElem?_take] at hj
      split at hj
      · rw [List.getElem?_drop] at hj
        simp [World.cell?, hblk, hb, hspot, hoff, hj]
      · simp at hj
  · simp at hv

theorem loadCells_sound {P : Program} {h : H} {w : World} (r : Rel h w) {a : Addr} {n : Nat} {vs : List Value} (hv : rdN h a n = some vs) :
    (loadCells a n).run P w = .ok vs.toArray w := by
  obtain ⟨hn, hc⟩ := rdN_sound r hv
  subst hn
  exact run_loadCells_list w a vs hc

/-! ### writing -/
theorem loadR_sound {P : Program} {h : H} {w : World} (r : Rel h w) {a : Addr} {n : Nat} {vs : List Value} (hv : rdR h a n = some vs) :
    (loadCells a n).run P w = .ok vs.toArray w := by
  unfold rdR at hv
  split at hv
  · rename_i h0
    obtain rfl := Option.some.inj hv
    subst h0
    exact run_loadCells_list w a [] (by simp)
  · exact loadCells_sound r hv
theorem rdR_of {h : H} {a : Addr} {n : Nat} {vs : List Value} (hv : rdN h a n = some vs) : rdR h a n = some vs := by
  unfold rdR
  split
  · rename_i h0
    subst h0
    unfold rdN at hv
    split at hv
    · cases hr : rowOf (h a.block) with
      | none => simp [hr] at hv
      | some l =>
        simp only [hr, Option.bind_some] at hv
        split at hv
        · simpa using hv
        · cases hv
    · cases hv
  · exact hv
theorem one_oneCell {v : Value} (h : one v = true) : v.oneCell' = true := by cases v <;> simp_all [one, Value.oneCell']
theorem one_cells {v : Value} (h : one v = true) : v.cells = #[v] := by cases v <;> simp_all [one, Value.cells]

theorem store_run {P : Program} {w : World} {b o : Nat} {c : Array Value} {t : TypeId} {fz : Nat × Nat} {v : Value}
    (hb : w.heap[b]? = some (.cells c t fz)) (ho : o < c.size) (hf : ¬ (fz.1 ≤ o ∧ o < fz.2)) (h1 : one v = true) :
    ∃ w', (store ⟨b, o, none⟩ v).run P w = .ok () w' ∧ Upd w b (.cells (c.setIfInBounds o v) t fz) w' := by
  refine ⟨w.setCell ⟨b, o, none⟩ v, ?_, ?_⟩
  · rw [run_store P w _ v _ (one_oneCell h1)]
    have hc : w.cell? ⟨b, o, none⟩ = some c[o] := by simp [World.cell?, hb, ho]
    have hz : w.frozen? ⟨b, o, none⟩ = false := by
      simp only [World.frozen?, hb]
      simpa using hf
    simp [hc, hz]
  · refine ⟨rfl, rfl, rfl, by simp [World.setCell], ?_, fun d hd => ?_⟩
    · simp [World.setCell, Array.getElem?_modify, hb]
    · simp only [World.setCell, Array.getElem?_modify]
      rw [if_neg (by simpa using Ne.symm hd)]

theorem Upd.trans {w w' w'' : World} {b : Nat} {o o' : Obj} (f : Upd w b o w') (g : Upd w' b o' w'') : Upd w b o' w'' :=
  ⟨g.os.trans f.os, g.tape.trans f.tape, g.output.trans f.output, g.size.trans f.size, g.at_, fun c hc => (g.far c hc).trans (f.far c hc)⟩

theorem splice_cons (l : List Value) (o : Nat) (v : Value) (vs : List Value) (ho : o < l.length) : splice (l.set o v) (o + 1) vs = splice l o (v :: vs) := by
  unfold splice
  apply List.ext_getElem?
  intro j
  simp only [List.getElem?_append, List.length_take, List.length_set, List.getElem?_take, List.getElem?_set, List.getElem?_drop, List.length_cons]
  have m1 : min (o + 1) l.length = o + 1 := by omega
  have m2 : min o l.length = o := by omega
  simp only [m1, m2]
  by_cases h1 : j < o
  · have : ¬ o = j := by omega
    simp [h1, show j < o + 1 by omega, this]
  · by_cases h2 : j = o
    · subst h2; simp [ho]
    · have e : j - o = (j - (o + 1)) + 1 := by omega
      simp only [show ¬ j < o + 1 by omega, if_false, h1, e, List.getElem?_cons_succ, List.length_cons, Nat.add_lt_add_iff_right]
      split
      · rfl
      · rename_i h3
        have : ¬ o = o + 1 + vs.length + (j - (o + 1) - vs.length) := by omega
        rw [if_neg this]
        congr 1
        omega

theorem splice_nil (l : List Value) (o : Nat) : splice l o [] = l := by simp [splice]
theorem splice_length (l : List Value) (o : Nat) (vs : List Value) (h : o + vs.length ≤ l.length) : (splice l o vs).length = l.length := by
  simp [splice]; omega
theorem splice_one (l : List Value) (o : Nat) (v : Value) (ho : o < l.length) : splice l o [v] = l.set o v := by
  rw [← splice_cons l o v [] ho, splice_nil]

theorem Addr.add_eq {b o i : Nat} : (⟨b, o, none⟩ : Addr).add i = ⟨b, o + i, none⟩ := by
  unfold Addr.add; split <;> simp_all

theorem storeCells_run {P : Program} {b o : Nat} {t : TypeId} {fz : Nat × Nat} : ∀ (vs : List Value) (i : Nat) (w : World) (l : List Value),
    w.heap[b]? = some (.cells l.toArray t fz) → o + i + vs.length ≤ l.length → (∀ j, j < l.length → ¬ (fz.1 ≤ j ∧ j < fz.2)) → vs.all one = true →
    ∃ w', (storeCells ⟨b, o, none⟩ vs i).run P w = .ok () w' ∧ Upd w b (.cells (splice l (o + i) vs).toArray t fz) w'
  | [], i, w, l, hb, _, _, _ => ⟨w, by simp [storeCells], by rw [splice_nil]; exact ⟨rfl, rfl, rfl, rfl, hb, fun _ _ => rfl⟩⟩
  | v :: vs, i, w, l, hb, hl, hf, h1 => by
    simp only [List.length_cons] at hl
    simp only [List.all_cons, Bool.and_eq_true] at h1
    obtain ⟨w1, hr1, hu1⟩ := store_run (P := P) hb (o := o + i) (by simp; omega) (hf _ (by omega)) h1.1
    have hb1 : w1.heap[b]? = some (.cells (l.set (o + i) v).toArray t fz) := by rw [hu1.at_]; simp
    obtain ⟨w2, hr2, hu2⟩ := storeCells_run (P := P) (o := o) (fz := fz) vs (i + 1) w1 (l.set (o + i) v) hb1 (by simp; omega) (by simpa using hf) h1.2
    refine ⟨w2, ?_, ?_⟩
    · simp only [storeCells, Sem.run_bind, Addr.add_eq, hr1, Result.andThen_ok]
      exact hr2
    · have e : splice (l.set (o + i) v) (o + (i + 1)) vs = splice l (o + i) (v :: vs) := by
        rw [show o + (i + 1) = o + i + 1 by omega]; exact splice_cons l (o + i) v vs (by omega)
      rw [← e]; exact hu1.trans hu2

theorem wr_sound {P : Program} {h h' : H} {w : World} (r : Rel h w) {a : Addr} {vs : List Value} (hw : wr h a vs = some h') (h1 : vs.all one = true) :
    ∃ w', (storeCells a vs).run P w = .ok () w' ∧ Rel h' w' ∧ Frame h w h' w' := by
  obtain ⟨b, o, s⟩ := a
  unfold wr at hw
  split at hw
  · rename_i l hs hb
    obtain rfl : s = none := hs
    simp only [Option.ite_none_right_eq_some, Option.some.injEq] at hw
    obtain ⟨hle, rfl⟩ := hw
    obtain ⟨t, fz, hm, hf⟩ := r _ _ hb
    obtain ⟨w', hr, hu⟩ := storeCells_run (P := P) (o := o) vs 0 w l hm hle hf h1
    refine ⟨w', hr, r.upd hu ⟨t, fz, rfl, ?_⟩, Frame.upd hu hb rfl⟩
    rw [splice_length l o vs hle]; exact hf
  · simp at hw

theorem wr1_sound {P : Program} {h h' : H} {w : World} (r : Rel h w) {a : Addr} {v : Value} (hw : wr1 h a v = some h') (h1 : one v = true) :
    ∃ w', (store a v).run P w = .ok () w' ∧ Rel h' w' ∧ Frame h w h' w' := by
  obtain ⟨b, o, s⟩ := a
  unfold wr1 at hw
  split at hw
  · rename_i l hs hb
    obtain rfl : s = none := hs
    simp only [Option.ite_none_right_eq_some, Option.some.injEq] at hw
    obtain ⟨hle, rfl⟩ := hw
    obtain ⟨t, fz, hm, hf⟩ := r _ _ hb
    obtain ⟨w', hr, hu⟩ := store_run (P := P) hm (o := o) (by simpa using hle) (hf _ hle) h1
    refine ⟨w', hr, r.upd hu ⟨t, fz, by simp, ?_⟩, Frame.upd hu hb rfl⟩
    simpa using hf
  · simp at hw
end Go.Proofs.YtkgjpdadeakacaaDoor.Am
