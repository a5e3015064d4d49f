/-
  Packed: Sorting, by the library's contracts, as readings of calls. Sorting, over parts of memory.
-/
import Derived.Test.YtdndngngdngjjaaGrLay
import Derived.Test.YtdndngngdngjjaaPkB
import Derived.WalkKit
import Derived.BigQuiet
import Derived.Test.YtdndngngdngjjaaPkH
namespace Go.Proofs.Ytdndngngdngjjaa.Am
open Go Go.Proofs Go.Lib Go.Shelf Go.RowKit Go.Sort
set_option linter.unusedVariables false
set_option linter.unusedSimpArgs false
set_option maxRecDepth 100000

/-- The comparison of two parts: by their first nodes. -/
theorem cmp20 {W : World} {a b : Addr} {n m c d : Nat} {x y : Int} (hn : 0 < n) (hm : 0 < m) (h1 : W.cell? a = some (.int .i64 x)) (h2 : W.cell? b = some (.int .i64 y)) :
    Calls Try.prog 20 #[.slice (some a) n c, .slice (some b) m d] W fun e w' => e = .returned (.int .i64 (IntKind.i64.wrap (x - y))) ∧ ∃ q, w' = W.drewN q := by
  have e1 : a.add 0 = a := by simp [Addr.add]
  have e2 : b.add 0 = b := by simp [Addr.add]
  go_enter Try.func20, Try.ntmps20
  go_wp2
  go_region
  go_wp2
  go_ret
  exact ⟨congrArg (fun z => Ending.returned (Value.int .i64 z)) (IntWalk.i64_left (x - y)).symm, 1, rfl⟩
variable {α : Type} [Inhabited α]
theorem put_list {enc : α → Value} {off : Nat} {d : Array α} {l : List Value} (hl : off + d.size ≤ l.length) : putCells enc off d l.toArray = (splice l off (d.toList.map enc)).toArray := by
  apply Array.ext_getElem?
  intro j
  have hw : (d.toList.map enc).length = d.size := by simp
  unfold putCells
  rw [Array.getElem?_mapIdx, List.getElem?_toArray, List.getElem?_toArray, getElem?_splice (by omega), hw]
  by_cases h1 : j < off
  · rw [if_pos h1]
    cases hx : l[j]? with
    | none => rfl
    | some v => simp only [Option.map_some]; rw [if_neg (by omega)]
  · rw [if_neg h1]
    by_cases h2 : j < off + d.size
    · rw [if_pos h2]
      have hj : l[j]? = some (l[j]'(by omega)) := List.getElem?_eq_getElem (by omega)
      rw [hj]
      simp only [Option.map_some]
      rw [if_pos (by omega), List.getElem?_map]
      have hd : j - off < d.size := by omega
      rw [Array.getElem?_toList, Array.getElem?_eq_getElem hd, getElem!_pos d _ hd]
      rfl
    · rw [if_neg h2]
      cases hx : l[j]? with
      | none => rfl
      | some v => simp only [Option.map_some]; rw [if_neg (by omega)]
theorem sort_rel {h : H} {W : World} {enc : α → Value} {b off k : Nat} {l : List Value} {d : Array α} {os : Array Obj} (r : Rel h W) (hb : h b = some (.cells l)) (hl : off + d.size ≤ l.length) :
    Rel (h.set b (.cells (splice l off (d.toList.map enc)))) (grow (putRow enc (Sort.ahead W k) b off d) os) ∧ Am.Frame h W (h.set b (.cells (splice l off (d.toList.map enc)))) (grow (putRow enc (Sort.ahead W k) b off d) os) := by
  obtain ⟨t, fz, hm, hfz⟩ := r b _ hb
  have hbl := r.lt hb
  have hsz : (W.heap.modify b (onCells (putCells enc off d))).size = W.heap.size := Array.size_modify
  have hheap : ∀ c, c < W.heap.size → (grow (putRow enc (Sort.ahead W k) b off d) os).heap[c]? = (W.heap.modify b (onCells (putCells enc off d)))[c]? := fun c hc => by
    show ((W.heap.modify b (onCells (putCells enc off d))) ++ os)[c]? = _
    rw [Array.getElem?_append, if_pos (by rw [hsz]; exact hc)]
  have hoth : ∀ c, c < W.heap.size → c ≠ b → (grow (putRow enc (Sort.ahead W k) b off d) os).heap[c]? = W.heap[c]? := fun c hc hne => by
    rw [hheap c hc, Array.getElem?_modify, if_neg (fun h => hne h.symm)]
  have hhere : (grow (putRow enc (Sort.ahead W k) b off d) os).heap[b]? = some (.cells (splice l off (d.toList.map enc)).toArray t fz) := by
    rw [hheap b hbl, Array.getElem?_modify, if_pos rfl, hm, Option.map_some]
    show some (Obj.cells (putCells enc off d l.toArray) t fz) = _
    rw [put_list hl]
  have hlen : (splice l off (d.toList.map enc)).length = l.length := length_splice (by simp; omega)
  refine ⟨fun c o hc => ?_, rfl, rfl, rfl, ?_, fun c hc hn => ?_, fun c hc hn => ?_, fun c l' hl' => ?_⟩
  · by_cases hcb : c = b
    · subst hcb
      rw [set_here] at hc
      cases hc
      exact ⟨t, fz, hhere, fun j hj => hfz j (by rw [← hlen]; exact hj)⟩
    · rw [set_away hcb] at hc
      rw [hoth c (r.lt hc) hcb]
      exact r c o hc
  · show W.heap.size ≤ ((W.heap.modify b (onCells (putCells enc off d))) ++ os).size
    rw [Array.size_append, hsz]; omega
  · refine hoth c hc fun hcb => ?_
    subst hcb
    rcases hn with hn | ⟨l', hn⟩
    · rw [hb] at hn; cases hn
    · rw [hb] at hn; cases hn
  · rw [set_away fun hcb => by subst hcb; rw [hb] at hn; cases hn]; exact hn
  · rw [set_away fun hcb => by subst hcb; rw [hb] at hl'; cases hl']; exact hl'
theorem holds_of {h : H} {W : World} {enc : α → Value} {b off : Nat} {l : List Value} {d : Array α} (r : Rel h W) (hb : h b = some (.cells l)) (hl : off + d.size ≤ l.length) (hd : (l.drop off).take d.size = d.toList.map enc) : Go.Sort.Holds enc W b off d := by
  obtain ⟨t, fz, hm, hfz⟩ := r b _ hb
  intro j hj
  have h1 := congrArg (·[j]?) hd
  simp only [List.getElem?_take, if_pos hj, List.getElem?_drop, List.getElem?_map, Array.getElem?_toList, Array.getElem?_eq_getElem hj, Option.map_some] at h1
  refine ⟨?_, ?_⟩
  · unfold World.cell?
    rw [hm, getElem!_pos d j hj]
    simpa using h1
  · have h2 := hfz (off + j) (by omega)
    obtain ⟨f1, f2⟩ := fz
    unfold World.frozen?
    rw [hm]
    simp only [Bool.and_eq_false_iff, decide_eq_false_iff_not]
    simp only at h2
    omega
theorem sort23 {b off n cap : Nat} {l : List Value} {zs : List Int} {h : H} {k : Kv} {kp : Kp} (hb : h b = some (.cells l)) (hl : off + n ≤ l.length) (hn : zs.length = n) (hs : n < 4611686018427387904) (hz : (l.drop off).take n = zs.map (Value.int .i64))
    (hk : k (.tuple #[]) (h.set b (.cells (splice l off ((zs.mergeSort fun x y => decide (x ≤ y)).map (Value.int .i64)))))) : CS Try.prog 23 [.slice (some ⟨b, off, none⟩) n cap] h k kp := by
  subst hn
  intro W R r hv hp
  have hH : Go.Sort.Holds (Value.int .i64) W b off zs.toArray := holds_of (d := zs.toArray) r hb (by simpa using hl) (by simpa using hz)
  have hc := AnyM.slices_Sort_int Try.sortA b off cap zs W hH (r.lt hb) hs
  change Calls Try.prog 23 _ _ _ at hc
  refine hc.mono fun e w' he => ?_
  obtain ⟨rfl, m, os, rfl⟩ := he
  have hml : (zs.mergeSort fun x y => decide (x ≤ y)).length = zs.length := List.length_mergeSort _
  obtain ⟨r2, f2⟩ := sort_rel (enc := (Value.int .i64)) (k := m) (d := (zs.mergeSort fun x y => decide (x ≤ y)).toArray) (os := os) r hb (by simp [hml]; exact hl)
  simp only [List.toList_toArray] at r2 f2
  exact hv _ _ _ hk r2 f2
/-- A part that is compared: a slice that is not empty, in another block. -/
def Cmpd (h : H) (b : Nat) (v : Value) (x : Int) : Prop := ∃ a n c, v = .slice (some a) n c ∧ 0 < n ∧ a.block ≠ b ∧ rd h a = some (.int .i64 x) ∧ -4611686018427387904 ≤ x ∧ x ≤ 4611686018427387903
theorem rd_cell? {h : H} {W : World} (r : Rel h W) {a : Addr} {v : Value} (hr : rd h a = some v) : W.cell? a = some v ∧ a.block < W.heap.size := by
  unfold rd at hr
  split at hr
  · rename_i hs
    cases hx : h a.block with
    | none => rw [hx] at hr; simp [rowOf] at hr
    | some o =>
      have hm := r _ _ hx
      have hlt := r.lt hx
      rw [hx] at hr
      refine ⟨?_, hlt⟩
      cases o with
      | cells l =>
        obtain ⟨t, fz, hm, _⟩ := hm
        unfold World.cell?
        rw [hm]
        simp only [hs, Option.isSome_none, Bool.false_eq_true, if_false]
        simpa [rowOf] using hr
      | ro l =>
        obtain ⟨t, fz, hm⟩ := hm
        unfold World.cell?
        rw [hm]
        simp only [hs, Option.isSome_none, Bool.false_eq_true, if_false]
        simpa [rowOf] using hr
      | map es c => simp [rowOf] at hr
      | sit s p => simp [rowOf] at hr
  · cases hr
theorem sortF19 {b off n cap : Nat} {l ws : List Value} {xs : _root_.Fin n → Int} {h : H} {k : Kv} {kp : Kp} (hb : h b = some (.cells l)) (hl : off + n ≤ l.length) (hn : ws.length = n) (h0 : 0 < n) (hs : n < 4611686018427387904) (hz : (l.drop off).take n = ws)
    (hw : ∀ i : _root_.Fin n, Cmpd h b (ws[i.val]'(by rw [hn]; exact i.isLt)) (xs i))
    (hk : ∀ is : List (_root_.Fin n), is.Perm (List.finRange n) → is.Pairwise (fun i j => xs i ≤ xs j) → k (.tuple #[]) (h.set b (.cells (splice l off (is.map fun i => ws[i.val]'(by rw [hn]; exact i.isLt)))))) :
    CS Try.prog 19 [.slice (some ⟨b, off, none⟩) n cap, .func (.func 20) #[] #[]] h k kp := by
  subst hn
  intro W R r hv hp
  have inst : Inhabited (_root_.Fin ws.length) := ⟨⟨0, h0⟩⟩
  let enc : _root_.Fin ws.length → Value := fun i => ws[i.val]
  let d : Array (_root_.Fin ws.length) := (List.finRange ws.length).toArray
  have hds : d.size = ws.length := by simp [d]
  have hmap : d.toList.map enc = ws := by
    apply List.ext_getElem?
    intro j
    simp only [d, List.toList_toArray, List.getElem?_map]
    by_cases hj : j < ws.length
    · rw [List.getElem?_eq_getElem (by simpa using hj), List.getElem?_eq_getElem hj]
      simp [enc]
    · rw [List.getElem?_eq_none (by simpa using hj), List.getElem?_eq_none (by omega)]; rfl
  have hH : Go.Sort.Holds enc W b off d := holds_of r hb (by rw [hds]; exact hl) (by rw [hds, hmap]; exact hz)
  let cf : _root_.Fin ws.length → _root_.Fin ws.length → Int := fun i j => xs i - xs j
  have hlt : ∀ i j, ltOf cf i j = decide (xs i < xs j) := fun i j => by
    unfold ltOf
    simp only [cf]
    rw [decide_eq_decide]; omega
  have hO : SWO (ltOf cf) := by
    refine ⟨fun x => ?_, fun x y z h1 h2 => ?_, fun x y z h1 h2 => ?_⟩
    · rw [hlt]; simp
    · rw [hlt] at *; simp at *; omega
    · rw [hlt] at *; simp at *; omega
  have h1c : OneCell enc := fun i => by
    obtain ⟨a, m, c, e, _⟩ := hw i
    show (ws[i.val]).oneCell' = true
    rw [e]; rfl
  have hbl := r.lt hb
  have hcmp : CmpLays1 Try.prog 20 #[] enc cf b off d.size W := by
    intro m os dk hdk i j
    obtain ⟨a1, n1, c1, e1, p1, q1, r1, x1, y1⟩ := hw i
    obtain ⟨a2, n2, c2, e2, p2, q2, r2, x2, y2⟩ := hw j
    obtain ⟨g1, l1⟩ := rd_cell? r r1
    obtain ⟨g2, l2⟩ := rd_cell? r r2
    have keep : ∀ a : Addr, a.block ≠ b → a.block < W.heap.size → (sortWorld enc W b off m dk os).cell? a = W.cell? a := fun a ha hlt => by
      unfold sortWorld
      rw [cell?_grow _ _ _ (by show a.block < (W.heap.modify b _).size; rw [Array.size_modify]; exact hlt), cell?_putRow_other _ _ _ _ _ _ (.inl ha)]
      rfl
    have hc := cmp20 (W := sortWorld enc W b off m dk os) (c := c1) (d := c2) p1 p2 ((keep a1 q1 l1).trans g1) ((keep a2 q2 l2).trans g2)
    have hargs : (#[enc i, enc j] ++ #[] : Array Value) = #[.slice (some a1) n1 c1, .slice (some a2) n2 c2] := by
      show #[ws[i.val], ws[j.val]] ++ #[] = _
      rw [e1, e2]; rfl
    rw [hargs]
    refine hc.mono fun e w' he => ?_
    obtain ⟨rfl, q, rfl⟩ := he
    refine ⟨?_, q, #[], by simp⟩
    have : IntKind.i64.wrap (xs i - xs j) = cf i j := IntWalk.i64_in _ ⟨by omega, by omega⟩
    rw [this]
  have hcon := Any.slices_SortFunc Try.sortF enc h1c cf hO 20 #[] b off cap d W (enters_of Try.func20 (by kernel_rfl) rfl) hcmp hH hbl (by rw [hds]; exact hs)
  change Calls Try.prog 19 _ _ _ at hcon
  rw [hds] at hcon
  refine hcon.mono fun e w' he => ?_
  obtain ⟨rfl, d', m, os, hperm, hsorted, rfl⟩ := he
  have hd's : d'.size = ws.length := by rw [hperm.1, hds]
  obtain ⟨r2, f2⟩ := sort_rel (enc := enc) (k := m) (d := d') (os := os) r hb (by rw [hd's]; exact hl)
  have hp2 : d'.toList.Perm (List.finRange ws.length) := by
    have e1 := @Array.extract_size _ d'
    have e2 := @Array.extract_size _ d
    rw [hd's] at e1
    rw [hds] at e2
    have := hperm.2.2
    rw [e1, e2] at this
    simpa [d] using this
  have hso : d'.toList.Pairwise fun i j => xs i ≤ xs j := by
    rw [List.pairwise_iff_getElem]
    intro i j hi hj hij
    rw [Array.length_toList] at hi hj
    have := hsorted i j (by omega) hij (by omega)
    rw [hlt, decide_eq_false_iff_not, getElem!_pos d' i hi, getElem!_pos d' j hj] at this
    simp only [Array.getElem_toList]
    omega
  exact hv _ _ _ (hk d'.toList hp2 hso) r2 f2
theorem sortF19_nil {a : Option Addr} {cap : Nat} {h : H} {k : Kv} {kp : Kp} (hk : k (.tuple #[]) h) : CS Try.prog 19 [.slice a 0 cap, .func (.func 20) #[] #[]] h k kp := by
  intro W R r hv hp
  have hcon := AnyF.slices_SortFunc_none Try.sortF0 a cap (.func (.func 20) #[] #[]) W
  change Calls Try.prog 19 _ _ _ at hcon
  refine hcon.mono fun e w' he => ?_
  obtain ⟨rfl, he⟩ := he
  subst he
  exact hv _ _ _ hk r (Am.Frame.refl h w')
end Go.Proofs.Ytdndngngdngjjaa.Am

namespace Go.Proofs.Ytdndngngdngjjaa.Am
open Go Go.Proofs Go.Lib Go.Shelf Go.RowKit Go.Sort
set_option linter.unusedVariables false
set_option linter.unusedSimpArgs false
set_option maxRecDepth 100000

theorem splice_mid {l ws : List Value} {o : Nat} (h : o + ws.length ≤ l.length) : ((splice l o ws).drop o).take ws.length = ws := by
  apply List.ext_getElem?
  intro j
  rw [List.getElem?_take, List.getElem?_drop, getElem?_splice h]
  by_cases hj : j < ws.length
  · rw [if_pos hj, if_neg (by omega), if_pos (by omega)]
    congr 1; omega
  · rw [if_neg hj, List.getElem?_eq_none (by omega)]
/-- A block's cells are changed where a row of one's own lies. -/
theorem Hp.splice {h0 h : H} {L : List Res} {i : Nat} {b off cap : Nat} {vs ws cl : List Value} (o : Hp h0 h L) (hi : L[i]? = some (bufR (.slice (some ⟨b, off, none⟩) vs.length cap) vs)) (hc : cap ≠ 0) (hb : h b = some (.cells cl)) (h1 : vs.length ≤ cap) (h2 : off + cap ≤ cl.length) (hw : ws.length = vs.length) :
    Hp h0 (h.set b (.cells (Am.splice cl off ws))) (L.set i (bufR (.slice (some ⟨b, off, none⟩) vs.length cap) ws)) := by
  refine o.of_buf hi (.inr ⟨b, off, cap, _, drop_here (Blk_some hc), by rw [hw], set_here, by omega, by rw [length_splice (by omega)]; exact h2, splice_mid (by omega)⟩) fun c u hu => ?_
  by_cases hcb : c = b
  · subst hcb
    rw [drop_here (Blk_some hc)] at hu; cases hu
  · rw [set_away hcb]
    rw [drop_away (by rw [Blk_some hc]; simp [Ne.symm hcb])] at hu
    exact hu
theorem sortI_nil {a : Option Addr} {cap : Nat} {h : H} {k : Kv} {kp : Kp} (hk : k (.tuple #[]) h) : CS Try.prog 23 [.slice a 0 cap] h k kp := by
  intro W R r hv hp
  have hc := AnyM.slices_Sort_int_none Try.sortA a cap W
  change Calls Try.prog 23 _ _ _ at hc
  refine hc.mono fun e w' he => ?_
  obtain ⟨rfl, he⟩ := he
  subst he
  exact hv _ _ _ hk r (Am.Frame.refl h w')
theorem sortI23 : SpecSortI (CS Try.prog) 23 := by
  intro h0 L i s l h k kp o hi hl hk
  rcases (o.buf hi).pos with ⟨a, rfl, e⟩ | ⟨b, off, cap, cl, hc, _, rfl, hb, h1, h2, h3⟩
  · have : l = [] := by simpa [Z] using e
    subst this
    refine sortI_nil (hk h ?_)
    simp only [List.mergeSort_nil]
    exact o.of_buf hi (.inl ⟨⟨a, rfl⟩, rfl⟩) (Ext.drop _ _)
  · rw [Z_len] at h1 h3
    have e : (.slice (some ⟨b, off, none⟩) (Z l).length cap : Value) = .slice (some ⟨b, off, none⟩) l.length cap := by rw [Z_len]
    rw [e]
    refine sort23 (zs := l) hb (by omega) rfl (by omega) h3 (hk _ ?_)
    have := o.splice (ws := Z (l.mergeSort fun x y => decide (x ≤ y))) hi hc hb (by rw [Z_len]; exact h1) h2 (by rw [Z_len, Z_len, List.length_mergeSort])
    exact this
theorem sortF19' : SpecSortF (CS Try.prog) 19 20 := by
  intro h0 L i s Q h k kp o hi hQ hn hk
  rcases (o.buf hi).pos with ⟨a, rfl, e⟩ | ⟨b, off, cap, cl, hc, _, rfl, hb, h1, h2, h3⟩
  · have : Q = [] := by simpa using e
    subst this
    refine sortF19_nil (hk h [] (.refl _) .nil ?_)
    exact o.of_buf hi (.inl ⟨⟨a, rfl⟩, rfl⟩) (Ext.drop _ _)
  · have hlen : (Q.map (·.1)).length = Q.length := by simp
    rw [hlen] at h1 h3
    have e : (.slice (some ⟨b, off, none⟩) (Q.map (·.1)).length cap : Value) = .slice (some ⟨b, off, none⟩) Q.length cap := by rw [hlen]
    rw [e]
    by_cases hq0 : Q = []
    · subst hq0
      refine sortF19_nil (hk h [] (.refl _) .nil ?_)
      have := o.of_buf hi (o.buf hi).self (Ext.drop _ _)
      exact this
    have hpos : 0 < Q.length := List.length_pos_iff.mpr hq0
    refine sortF19 (ws := Q.map (·.1)) (xs := fun j : _root_.Fin Q.length => ((Q[j.val]).2.headD 0 : Int)) hb (by omega) hlen hpos (by omega) h3 (fun j => ?_) fun is hp hs => ?_
    · have hj : j.val < Q.length := j.isLt
      obtain ⟨g1, g2, jj, g3, g4⟩ := hQ Q[j.val] (List.getElem_mem hj)
      have he : (Q.map (·.1))[j.val]'(by rw [hlen]; exact hj) = (Q[j.val]).1 := by simp
      rw [he]
      generalize Q[j.val] = x at *
      have hb1 := o.buf g4
      cases hx : x.2 with
      | nil => exact absurd hx g1
      | cons y ys =>
        rw [hx] at g2 hb1
        rcases hb1.pos with ⟨a, _, e⟩ | ⟨b', off', cap', cl', hc', _, e', hb', h1', h2', h3'⟩
        · simp [ZN] at e
        · have hne : b' ≠ b := fun e => by
            subst e
            have q1 : (bufR x.1 (ZN x.2)).foot b' := by rw [bufR_foot, e', Blk_some hc']
            refine o.ne g4 hi g3 q1 ?_
            rw [bufR_foot, Blk_some hc]
          refine ⟨_, _, _, e', by simp [ZN], hne, ?_, ?_, ?_⟩
          · have := congrArg (·[0]?) h3'
            simp only [List.getElem?_take, ZN_len, List.length_cons, Nat.zero_lt_succ, if_true, List.getElem?_drop, Nat.add_zero] at this
            simp only [rd, hb', rowOf, Option.bind_some]
            rw [this]; rfl
          · have := g2 y (by simp)
            show -4611686018427387904 ≤ (y : Int)
            omega
          · have := g2 y (by simp)
            show (y : Int) ≤ 4611686018427387903
            omega
    · have hil : is.length = Q.length := by have := hp.length_eq; simpa using this
      refine hk _ (is.map fun j => Q[j.val]) ?_ ?_ ?_
      · have := hp.map fun j : _root_.Fin Q.length => Q[j.val]
        refine this.trans ?_
        rw [show (List.finRange Q.length).map (fun j => Q[j.val]) = Q from by
          apply List.ext_getElem
          · simp
          · intro a b c; simp]
      · rw [List.pairwise_map]
        exact hs.imp fun {a b} hab => by omega
      · have := o.splice (ws := is.map fun j => (Q.map (·.1))[j.val]'(by rw [hlen]; exact j.isLt)) hi hc hb (by rw [hlen]; exact h1) h2 (by simp [hil])
        have e2 : (is.map fun j => (Q.map (·.1))[j.val]'(by rw [hlen]; exact j.isLt)) = (is.map fun j => Q[j.val]).map (·.1) := by
          rw [List.map_map]
          apply List.map_congr_left
          intro j _
          simp
        rw [e2] at this
        rw [e2]
        exact this
end Go.Proofs.Ytdndngngdngjjaa.Am
