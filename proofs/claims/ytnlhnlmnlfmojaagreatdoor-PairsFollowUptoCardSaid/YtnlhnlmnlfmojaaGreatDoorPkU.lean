/-
  Packed: The document's example; the first two laws. Contracts of Go's library, as readings of calls. Variables that are moved.
-/
import Derived.Test.YtnlhnlmnlfmojaaGreatDoorPkT
import Derived.Test.YtnlhnlmnlfmojaaGreatDoorSysLay
import Derived.Test.YtnlhnlmnlfmojaaGreatDoorPkB
set_option linter.unusedVariables false
set_option linter.unusedSimpArgs false
set_option linter.unnecessarySimpa false
namespace Go.Proofs.YtnlhnlmnlfmojaaGreatDoor.Am
open Go Go.Proofs Sys Go.Lib
set_option linter.unusedVariables false
set_option linter.unusedSimpArgs false
set_option maxRecDepth 100000
variable {D : Orc} {T : H → Prop}

def adSig : List Sy := [(ByteArray.mk #[122, 101, 114, 111], 0), (ByteArray.mk #[115], 1), (ByteArray.mk #[112, 108, 117, 115], 2)]
def adS : Sm := ⟨adSig, [([2, 0, -2], [-2]), ([2, 1, -1, -2], [1, 2, -1, -2])]⟩
def adT : Sm := ⟨adSig, [([2, 1, -1, -2], [1, 2, -1, -2]), ([2, 0, -2], [-2])]⟩
def adBad : Sm := ⟨adSig, [([2, 1, -1, -2], [-3]), ([2, 0, -2], [-2])]⟩
theorem ad_chk : chkSys adS = (0, 0) := by kernel_rfl
theorem ad_def : defL adS = [2] := by kernel_rfl
theorem ad_same : sameS adS adT = true := by kernel_rfl
theorem ad_bad : chkSys adBad = (72, 0) := by kernel_rfl
theorem ad_other : sameS adS adBad = false := by kernel_rfl
/-- A new row of numbers. -/
theorem ir_new {h : H} {b n : Nat} {l : List Int} (hb : h b = some (.cells (Z l))) (hn : l.length = n) (hl : n < 2 ^ 40) (hr : ∀ x ∈ l, inI x) : Ir h (.slice (some ⟨b, 0, none⟩) n n) l :=
  ⟨Row.cells hb (by rw [Z_len, hn]), by omega, hr⟩
theorem rr_two {h : H} {b : Nat} {v1 w1 v2 w2 : Value} {r1 r2 : Ru} (hb : h b = some (.cells [v1, w1, v2, w2])) (a1 : Ir h v1 r1.1) (a2 : Ir h w1 r1.2) (a3 : Ir h v2 r2.1) (a4 : Ir h w2 r2.2) : Rr h (.slice (some ⟨b, 0, none⟩) 2 2) [r1, r2] := by
  refine ⟨⟨[(v1, w1), (v2, w2)], RowK.cells hb rfl (by intro v hv; simp only [ruRow, List.map_cons, List.map_nil, List.mem_cons, List.not_mem_nil, or_false] at hv; rcases hv with rfl | rfl <;> rfl) rfl, rfl, fun i v hv => ?_⟩, by simp⟩
  match i with
  | 0 => simp only [List.getElem?_cons_zero, Option.some.injEq] at hv; subst hv; exact ⟨r1, rfl, a1, a2⟩
  | 1 => simp only [List.getElem?_cons_succ, List.getElem?_cons_zero, Option.some.injEq] at hv; subst hv; exact ⟨r2, rfl, a3, a4⟩
  | i + 2 => simp at hv
/-- The example lies in new blocks. -/
structure Ad (h0 h : H) (b1 b2 : Nat) (s4 s6 s8 s10 : Value) : Prop where
  ext : Ext h0 h
  sig : Sr h (.slice (some ⟨b1, 0, none⟩) 3 3) adSig
  row : h b2 = some (.cells [s4, s6, s8, s10])
  new : h0 b2 = none
  ne : b1 ≠ b2
  i4 : Ir h s4 [2, 0, -2]
  i6 : Ir h s6 [-2]
  i8 : Ir h s8 [2, 1, -1, -2]
  i10 : Ir h s10 [1, 2, -1, -2]
  off : ∀ s, s = s4 ∨ s = s6 ∨ s = s8 ∨ s = s10 → Blk s ≠ some b2
def adV (b1 b2 : Nat) : Value := .agg #[.slice (some ⟨b1, 0, none⟩) 3 3, .slice (some ⟨b2, 0, none⟩) 2 2]
theorem sr_new {h : H} {b : Nat} (hb : h b = some (.cells (sgRow adSig).flatten)) : Sr h (.slice (some ⟨b, 0, none⟩) 3 3) adSig :=
  ⟨RowK.cells hb rfl (fun v hv => by simp only [sgRow, List.mem_map] at hv; obtain ⟨x, _, rfl⟩ := hv; rfl) rfl, by simp [adSig], fun x hx => by
    simp only [adSig, List.mem_cons, List.not_mem_nil, or_false] at hx
    rcases hx with rfl | rfl | rfl <;> decide⟩
theorem Ad.ss {h0 h : H} {b1 b2 : Nat} {s4 s6 s8 s10 : Value} (a : Ad h0 h b1 b2 s4 s6 s8 s10) : Ss h (adV b1 b2) adS :=
  ⟨⟨_, _, rfl, a.sig, rr_two a.row a.i4 a.i6 a.i8 a.i10⟩⟩
end Go.Proofs.YtnlhnlmnlfmojaaGreatDoor.Am

namespace Go.Proofs.YtnlhnlmnlfmojaaGreatDoor.Am
open Go Go.Proofs Sys Go.Lib Go.Shelf Go.RowKit Go.Maps Go.Sort
set_option linter.unusedVariables false
set_option linter.unusedSimpArgs false
set_option maxRecDepth 100000

/-- The tables of Go's decoder lie in the heap, as their initialisers lay them. -/
def Tabs (h : H) : Prop := ∃ l3 l4, h 0 = some (.ro l3) ∧ h 1 = some (.ro l4) ∧ (∀ c, c < 256 → l3[c]? = some (.int .u8 (firstT c))) ∧
  ∀ i, i < 16 → l4[2 * i]? = some (.int .u8 (accLo i)) ∧ l4[2 * i + 1]? = some (.int .u8 (accHi i))
theorem tabs_stay : Stays Tabs := fun h h' e ⟨l3, l4, a, b, c, d⟩ => ⟨l3, l4, e _ _ a, e _ _ b, c, d⟩
theorem cell_ro {h : H} {W : World} (r : Rel h W) {b i : Nat} {l : List Value} {v : Value} (hb : h b = some (.ro l)) (hi : l[i]? = some v) : W.cell? ⟨b, i, none⟩ = some v := by
  obtain ⟨t, fz, hm⟩ := r b _ hb
  unfold World.cell?
  rw [hm]
  simpa using hi
theorem tabs_world {h : H} {W : World} (r : Rel h W) (ht : Tabs h) : Utf8Tabs 0 1 W := by
  obtain ⟨l3, l4, a, b, c, d⟩ := ht
  exact ⟨fun i hi => cell_ro r a (c i hi), fun i hi => ⟨cell_ro r b (d i hi).1, cell_ro r b (d i hi).2⟩⟩
theorem spec91 : SpecValid (CS Tryz.prog) 91 Tabs := by
  intro s h k kp hs ht hk
  refine cs_below (v := .bool (validD s.data.toList)) (fun W r => ?_) hk
  exact Any.utf8_ValidString Tryz.laysValid s W (by omega) (tabs_world r ht)
theorem heap_new (W : World) (o : Obj) : (W.alloc o).heap[W.heap.size]? = some o := Array.getElem?_push_size
theorem spec76 : SpecKeys (CS Tryz.prog) := by
  intro m h k kp hk W R r hv hp
  have hc : Calls Tryz.prog 76 #[.map m] W fun e w' => e = .returned (.func (.func 99) #[] #[.pointer (some ⟨W.heap.size, 0, none⟩)]) ∧ w' = W.alloc (.cells #[.map m] 102) :=
    (callsIn_wide (n := 6)).1 (AnyZI.keys_in Tryz.keysA Fence.wide 6 trivial rfl m W)
  refine hc.mono fun e w' he => ?_
  obtain ⟨rfl, rfl⟩ := he
  have hn := r.fresh
  have hb : Below W.heap.size W (W.alloc (.cells #[.map m] 102)) := (Below.refl _ W).alloc (Nat.le_refl _) _
  have hm : OMatch (W.alloc (.cells #[.map m] 102)).heap[W.heap.size]? (.cells [.map m]) := ⟨102, (0, 0), heap_new W _, fun j _ => by omega⟩
  obtain ⟨r2, f2⟩ := rel_new r hb (Nat.le_refl _) hm
  exact hv _ _ _ (hk _ hn) r2 f2
theorem sorts (m : Nat) : AnyZI.SortsIn Tryz.prog Tryz.sortedA_ren Fence.wide m :=
  ⟨fun blk off cap ss W hH hblk hsz => callsIn_wide.2 (AnyM.slices_Sort_int Tryz.sortA blk off cap ss W hH hblk hsz),
   fun p cap W => callsIn_wide.2 (AnyM.slices_Sort_int_none Tryz.sortA p cap W)⟩
def anyR (_ : Value) : Option (DataW Unit × List MemPlace) := some (.lit (.bool true), [])
theorem rd_any {x : Int} {e : MapEntry} (hk : e.key = .int .i64 x) (hx : inI x) : Go.WideElems.rd Tryz.prog 3 anyR e = some (.int .i64 x, .lit (.bool true)) := by
  have hw : (Lit.int .i64 x).wf = true := by
    unfold inI at hx
    simp [Lit.wf, IntKind.min, IntKind.max, IntKind.bits, IntKind.signed]
    omega
  unfold Go.WideElems.rd
  rw [hk, keyOf_int_mk (show Tryz.prog.underlying 3 = some (.int .i64) by kernel_rfl) hw]
  rfl
theorem spec75 : SpecSorted (CS Tryz.prog) := by
  intro c b es cl ks h k kp hc hb mi hrng hlen hk W R r hv hp
  obtain ⟨t, fz, hcm, _⟩ := r c _ hc
  have hbm : W.heap[b]? = some (.map es.toArray cl) := r b _ hb
  have hcl := r.lt hc
  have hel : es.length = ks.length := by have := congrArg List.length mi.keys; simpa using this
  have hkey : ∀ e ∈ es, ∃ x ∈ ks, e.key = .int .i64 x := fun e he => by
    have h1 : e.key ∈ es.map (·.key) := List.mem_map_of_mem he
    rw [mi.keys] at h1
    obtain ⟨x, hx, hxe⟩ := List.mem_map.mp h1
    exact ⟨x, hx, hxe.symm⟩
  have hmax : maxLen = 9223372036854775807 := by decide
  have hown : W.ownsMap Tryz.prog 3 anyR b es.length (.map ((es.map (Go.WideElems.rg Tryz.prog 3 anyR)).foldr DataW.insert [])) := by
    refine ⟨es.toArray, cl, hbm, ⟨by simp; omega, mi.st, fun x hx => ?_⟩, by simp, by simp⟩
    obtain ⟨y, hy, hye⟩ := hkey x (by simpa using hx)
    exact ⟨_, rd_any hye (hrng y hy)⟩
  have hkeys : (intKeys (DataW.map ((es.map (Go.WideElems.rg Tryz.prog 3 anyR)).foldr DataW.insert []))).Perm ks := by
    show (List.map _ _).Perm ks
    refine ((Go.WideShapes.sorted_perm _).map _).trans ?_
    have : (es.map (Go.WideElems.rg Tryz.prog 3 anyR)).map (fun p => Go.intOf p.1) = ks := by
      rw [List.map_map]
      have hgo : ∀ (es : List MapEntry) (ks : List Int), KeysAre es ks → (∀ x ∈ ks, inI x) → es.map ((fun p => Go.intOf p.1) ∘ Go.WideElems.rg Tryz.prog 3 anyR) = ks := by
        intro es
        induction es with
        | nil => intro ks hk _; cases ks <;> simp [KeysAre] at hk ⊢
        | cons e es ih =>
          intro ks hk hr
          cases ks with
          | nil => simp [KeysAre] at hk
          | cons y ks =>
            simp only [KeysAre, List.map_cons, List.cons.injEq] at hk
            rw [List.map_cons, ih ks hk.2 fun x hx => hr x (by simp [hx])]
            congr 1
            simp only [Function.comp]
            unfold Go.WideElems.rg
            rw [rd_any hk.1 (hr y (by simp))]
            rfl
      exact hgo es ks mi.keys hrng
    rw [this]
  have hsz : Maps.size (DataW.map ((es.map (Go.WideElems.rg Tryz.prog 3 anyR)).foldr DataW.insert [])) ≤ 1048576 := by
    have := hkeys.length_eq
    simp only [intKeys, List.length_map] at this
    simp only [Maps.size]
    omega
  have hcell : W.cell? ⟨c, 0, none⟩ = some (.map (some b)) := by
    unfold World.cell?
    rw [hcm]; rfl
  have hseq : SeqGives Fence.wide 2 Tryz.prog 99 #[.pointer (some ⟨c, 0, none⟩)] encZ (fun ss => ss.Perm (intKeys (DataW.map ((es.map (Go.WideElems.rg Tryz.prog 3 anyR)).foldr DataW.insert [])))) (Maps.size (DataW.map ((es.map (Go.WideElems.rg Tryz.prog 3 anyR)).foldr DataW.insert []))) W :=
    AnyZI.keys_gives (ρ := Tryz.keysA_ren) { Tryz.keysA with } Fence.wide _ trivial rfl (by omega) c b es.length _ _ hcl hcell hown
  have cS := AnyZI.sorted_in Tryz.sortedA Fence.wide 5 trivial trivial trivial trivial rfl (by omega) (sorts _) (enters_of Tryz.func98 (by kernel_rfl) rfl) 99 #[.pointer (some ⟨c, 0, none⟩)] trivial (enters_of Tryz.func99 (by kernel_rfl) rfl) _ _ (by omega) (by omega) _ hseq
  change CallsIn _ _ Tryz.prog 75 _ _ _ at cS
  refine ((callsIn_wide (n := 5)).1 cS).mono fun e w' he => ?_
  obtain ⟨v, ss, rfl, hS, hrow, hnil, hbl⟩ := he
  have hsort : ss.mergeSort (fun x y => decide (x ≤ y)) = ks.mergeSort (fun x y => decide (x ≤ y)) := mergeSort_of_perm_i (hS.trans hkeys)
  rw [hsort] at hrow
  have hssl : ss.length = ks.length := (hS.trans hkeys).length_eq
  have hml : (ks.mergeSort (fun x y => decide (x ≤ y))).length = ks.length := List.length_mergeSort _
  have hmr : ∀ x ∈ ks.mergeSort (fun x y => decide (x ≤ y)), inI x := fun x hx => hrng x (by rw [List.mem_mergeSort] at hx; exact hx)
  rcases hrow.2 with ⟨rfl, hz⟩ | ⟨g, cap, cur, rfl, hg1, hg2, hg3, hg4, hg5, hg6⟩
  · have hks : ks.mergeSort (fun x y => decide (x ≤ y)) = [] := List.length_eq_zero_iff.mp (by omega)
    have r2 := r.below hbl
    refine hv _ _ _ (hk _ h ?_ (Ext.refl _) fun d hd => by rw [Blk_nil] at hd; cases hd) r2 (frame_below hbl)
    rw [hks]
    exact ⟨Row.nil_, by simp, by simp⟩
  · obtain ⟨r2, f2⟩ := rel_new r hbl hg1 (l := cur.toList) ⟨_, (0, 0), by simpa using hg2, fun j _ => by omega⟩
    have hgn : h g = none := by
      cases hx : h g with
      | none => rfl
      | some o => exact absurd (r.lt hx) (by omega)
    refine hv _ _ _ (hk _ _ ⟨?_, by omega, hmr⟩ (Ext.new hgn) fun d hd => ?_) r2 f2
    rotate_left
    · by_cases h0 : cap = 0
      · subst h0; rw [Blk_nil] at hd; cases hd
      · rw [Blk_some h0] at hd; cases hd; exact hgn
    have hZ : (Z (ks.mergeSort (fun x y => decide (x ≤ y)))).length = ss.length := by rw [Z_len, hml, hssl]
    refine ⟨some ⟨g, 0, none⟩, cap, by rw [hZ], by rw [hZ]; exact hg3, .inr ⟨_, rfl, rfl, cur.toList, by show rowOf ((h.set g (.cells cur.toList)) g) = _; rw [set_here]; rfl, ?_, ?_⟩⟩
    · show 0 + cap ≤ cur.toList.length
      rw [Array.length_toList]; omega
    · rw [hZ]
      have := hg6
      rw [Nat.mul_one] at this
      exact this
end Go.Proofs.YtnlhnlmnlfmojaaGreatDoor.Am

namespace Go.Proofs.YtnlhnlmnlfmojaaGreatDoor.Am
open Go Go.Proofs Sys Go.Lib
set_option linter.unusedVariables false
set_option linter.unusedSimpArgs false
set_option maxRecDepth 100000
variable {D : Orc} {T : H → Prop}

def shC (by_ c : Int) : Int := if c < 0 then c - by_ else c
def ShOk (by_ : Int) (l : List Int) : Prop := ∀ c ∈ l, c < 0 → -1048576 ≤ c - by_ ∧ c - by_ < 0
theorem spec28 (c : Cl28 D) {t : Value} {l : List Int} {by_ : Int} {h : H} {k : Kv} {kp : Kp} (q : Ir h t l) (hby : inI by_)
    (hbad : ∀ h', Ext h h' → k (.tuple #[.slice none 0 0, .int .i64 40]) h') (hk : ∀ v h', Ext h h' → Ir h' v (l.map (shC by_)) → (∀ d, Blk v = some d → h d = none) → ShOk by_ l → k (.tuple #[v, .int .i64 0]) h') : D 28 [t, .int .i64 by_] h k kp := by
  refine c _ _ _ _ _ ?_
  unfold F28
  have hl := q.len
  have hl' : l.length < 1099511627776 := hl
  unfold inI at hby
  rw [intK_int]
  intro q0 hq0
  have e0 : Ext h (h.set q0 (.cells [])) := Ext.new hq0
  have o0 : Own h (h.set q0 (.cells [])) (.slice (some ⟨q0, 0, none⟩) 0 0) (Z []) := ⟨e0, .inl ⟨⟨_, rfl⟩, rfl⟩, fun d hd => by rw [Blk_nil] at hd; cases hd⟩
  generalize h.set q0 (.cells []) = h1 at e0 o0 ⊢
  intro I hI
  have key : ∀ (n i : Nat) (out : Value) (h2 : H), l.length - i ≤ n → i ≤ l.length → Own h h2 out (Z ((l.take i).map (shC by_))) → ShOk by_ (l.take i) →
      I [t, .int .i64 by_, out, .int .i64 ((i : Nat) : Int)] h2 := by
    have fin : ∀ (i : Nat) (out : Value) (h2 : H), ¬ ((i : Int) < l.length) → i ≤ l.length → Own h h2 out (Z ((l.take i).map (shC by_))) → ShOk by_ (l.take i) → k (.tuple #[out, .int .i64 0]) h2 := by
      intro i out h2 hn hi o hs
      rw [List.take_of_length_le (by omega)] at o hs
      refine hk out h2 o.ext ⟨o.row, by rw [List.length_map]; exact hl, fun x hx => ?_⟩ o.blk hs
      obtain ⟨c, hc, rfl⟩ := List.mem_map.mp hx
      have := q.rng c hc
      unfold shC
      split
      · rename_i hneg
        have := hs c hc hneg
        unfold inI; omega
      · exact this
    intro n
    induction n with
    | zero =>
      intro i out h2 hn hi o hs
      refine hI _ _ _ _ _ ?_
      unfold round28_3
      rw [intK_int, intK_int, (q.ext o.ext).len_, cond_dec]
      refine ⟨fun hlt => by omega, fun hge => ?_⟩
      exact fin i out h2 hge hi o hs
    | succ n ih =>
      intro i out h2 hn hi o hs
      refine hI _ _ _ _ _ ?_
      unfold round28_3
      rw [intK_int, intK_int, (q.ext o.ext).len_, cond_dec]
      refine ⟨fun hlt => ?_, fun hge => fin i out h2 hge hi o hs⟩
      refine (q.ext o.ext).at_ (by omega) (by omega) fun a1 x hx hxi hr1 => ⟨x, hr1, ?_⟩
      rw [Int.toNat_natCast] at hx
      have hxi' := hxi
      unfold inI at hxi'
      have htk := (split_at hx).2.1
      -- the round's end, with a code put
      have put : ∀ y : Int, y = shC by_ x → (x < 0 → -1048576 ≤ x - by_ ∧ x - by_ < 0) → ∀ s' h3, Own h h3 s' (Z ((l.take i).map (shC by_)) ++ [.int .i64 y]) → I [t, .int .i64 by_, s', .int .i64 (((i + 1 : Nat)) : Int)] h3 := by
        intro y hy hok s' h3 o'
        refine ih (i + 1) s' h3 (by omega) (by omega) ?_ fun c hc hneg => ?_
        · rw [htk, List.map_append, ← Z_app, List.map_singleton, ← hy]
          exact o'
        · rw [htk] at hc
          rcases List.mem_append.mp hc with hc | hc
          · exact hs c hc hneg
          · simp only [List.mem_singleton] at hc
            subst hc; exact hok hneg
      refine (q.ext o.ext).at_ (by omega) (by omega) fun a2 x2 hx2 _ hr2 => ⟨x2, hr2, ?_⟩
      rw [Int.toNat_natCast, hx] at hx2
      cases hx2
      have hzl : (Z ((l.take i).map (shC by_))).length < 2 ^ 40 := by rw [Z_len, List.length_map, List.length_take]; omega
      rw [cond_dec]
      refine ⟨fun hpos => ?_, fun hneg => ?_⟩
      · refine (q.ext o.ext).at_ (by omega) (by omega) fun a3 x3 hx3 _ hr3 => ⟨x3, hr3, ?_⟩
        rw [Int.toNat_natCast, hx] at hx3
        cases hx3
        refine o.push hzl (by decide) rfl rfl (by decide) fun s' h3 o' _ _ => ?_
        unfold j28_3_4
        rw [intK_int, intK_int, i64_id (by omega) (by omega)]
        exact put x (by unfold shC; rw [if_neg (by omega)]) (fun h => by omega) s' h3 o'
      · have hn : x < 0 := by omega
        -- the last step: the flag tells whether a name is left
        have last : ∀ f : Bool, (f = false → x - by_ < 0 ∧ -1048576 ≤ x - by_) → ∀ y : Int, y = -1 - (x - by_) → inI y →
            j28_3_12 D I (fun x39 vs40 h38 => xs x39 (intK IntKind.i64 (nth vs40 1) (fun x42 => k (Value.tuple #[(nth vs40 0), (Value.int IntKind.i64 x42)]) h38)) (fun i41 => cond (Nat.beq i41 0) (k (Value.tuple #[(nth vs40 0), (Value.int IntKind.i64 (0 : Int))]) h38) (False)) (fun c => kp c h38)) t (.int .i64 by_) out (.int .i64 ((i : Nat) : Int)) (.int .i64 y) (.bool f) h2 := by
          intro f hf y hy hyi
          unfold j28_3_12
          rw [intK_int, intK_int, intK_int, boolW_bool, cond_split]
          refine ⟨fun _ => ?_, fun hff => ?_⟩
          · simp only [xs_r, nth0, nth1, intK_int]
            exact hbad h2 o.ext
          · obtain ⟨h1', h2'⟩ := hf hff
            rw [i64_id (n := -1 - y) (by omega) (by omega)]
            refine o.push hzl (by decide) rfl rfl (by decide) fun s' h3 o' _ _ => ?_
            unfold j28_3_4
            rw [intK_int, intK_int, i64_id (by omega) (by omega)]
            have hyy : -1 - y = x - by_ := by omega
            rw [hyy] at o'
            exact put _ (by unfold shC; rw [if_pos hn]) (fun _ => ⟨h2', h1'⟩) s' h3 o'
        have mid : ∀ f : Bool, (f = false → by_ < 1048576 ∧ (0 ≤ by_ → -1 - x < 1048576 - by_)) →
            j28_3_9 D I (fun x39 vs40 h38 => xs x39 (intK IntKind.i64 (nth vs40 1) (fun x42 => k (Value.tuple #[(nth vs40 0), (Value.int IntKind.i64 x42)]) h38)) (fun i41 => cond (Nat.beq i41 0) (k (Value.tuple #[(nth vs40 0), (Value.int IntKind.i64 (0 : Int))]) h38) (False)) (fun c => kp c h38)) t (.int .i64 by_) out (.int .i64 ((i : Nat) : Int)) (.int .i64 (-1 - x)) (.bool f) h2 := by
          intro f hf
          unfold j28_3_9
          rw [intK_int, intK_int, intK_int, boolW_bool, cond_split]
          refine ⟨fun _ => ?_, fun hff => ?_⟩
          · simp only [xs_r, nth0, nth1, intK_int]
            exact hbad h2 o.ext
          · obtain ⟨g1, g2⟩ := hf hff
            have hb1 : -9223372036854775808 ≤ (-1 - x) + by_ ∧ (-1 - x) + by_ ≤ 9223372036854775807 := by
              by_cases h0 : 0 ≤ by_
              · have := g2 h0; omega
              · omega
            rw [i64_id hb1.1 hb1.2, cond_not, cond_dec]
            refine ⟨fun hlt0 => last true (fun h => by cases h) _ (by omega) (by unfold inI; omega), fun hge0 => ?_⟩
            refine last _ (fun hf2 => ?_) _ (by omega) (by unfold inI; omega)
            rw [decide_eq_false_iff_not] at hf2
            omega
        rw [i64_id (n := -1 - x) (by omega) (by omega), cond_not, cond_dec]
        refine ⟨fun hbig => mid true (fun h => by cases h), fun hsm => ?_⟩
        rw [cond_dec]
        refine ⟨fun h0 => ?_, fun h0 => mid false fun _ => ⟨by omega, fun h => by omega⟩⟩
        rw [i64_id (n := 1048576 - by_) (by omega) (by omega)]
        refine mid _ fun hf => ?_
        rw [decide_eq_false_iff_not] at hf
        exact ⟨by omega, fun _ => by omega⟩
  exact key l.length 0 _ h1 (by omega) (by omega) (by simpa using o0) (fun c hc => by simp at hc)

/-! ### what moving keeps -/
theorem sh_neg {b c : Int} (h : c < 0) : shC b c = c - b := by unfold shC; rw [if_pos h]
theorem sh_pos {b c : Int} (h : ¬ c < 0) : shC b c = c := by unfold shC; rw [if_neg h]
theorem sh_mem {b c : Int} (hc : c < 0) : ∀ {met : List Int}, (∀ x ∈ met, x < 0) → (shC b c ∈ met.map (shC b) ↔ c ∈ met) := by
  intro met hm
  rw [List.mem_map]
  constructor
  · rintro ⟨x, hx, he⟩
    rw [sh_neg (hm x hx), sh_neg hc] at he
    have : x = c := by omega
    subst this; exact hx
  · intro h; exact ⟨c, h, rfl⟩
theorem sh_idx {b c : Int} (hc : c < 0) : ∀ {met : List Int}, (∀ x ∈ met, x < 0) → (met.map (shC b)).idxOf (shC b c) = met.idxOf c
  | [], _ => rfl
  | x :: met, hm => by
    rw [List.map_cons, List.idxOf_cons, List.idxOf_cons, sh_idx hc fun y hy => hm y (by simp [hy])]
    have hx := hm x (by simp)
    have : (shC b x == shC b c) = (x == c) := by
      rw [sh_neg hx, sh_neg hc, Bool.eq_iff_iff, beq_iff_eq, beq_iff_eq]; omega
    rw [this]
theorem sh_met {b : Int} : ∀ (t met : List Int), ShOk b t → (∀ x ∈ met, x < 0) → metGo (met.map (shC b)) (t.map (shC b)) = (metGo met t).map (shC b) ∧ canonGo (met.map (shC b)) (t.map (shC b)) = canonGo met t
  | [], met, _, _ => ⟨rfl, rfl⟩
  | c :: t, met, ho, hm => by
    have ho' : ShOk b t := fun x hx => ho x (by simp [hx])
    rw [List.map_cons]
    unfold metGo canonGo
    by_cases hc : c < 0
    · have hs : shC b c < 0 := by rw [sh_neg hc]; exact (ho c (by simp) hc).2
      rw [if_pos hs, if_pos hc, sh_idx hc hm]
      by_cases hin : c ∈ met
      · have hin' := (sh_mem (b := b) hc hm).mpr hin
        obtain ⟨h1, h2⟩ := sh_met t met ho' hm
        rw [if_neg (fun h => h.2 hin'), if_neg (fun h => h.2 hin), if_pos hin', if_pos hin]
        exact ⟨h1, by rw [h2]⟩
      · have hin' : shC b c ∉ met.map (shC b) := fun h => hin ((sh_mem hc hm).mp h)
        obtain ⟨h1, h2⟩ := sh_met t (met ++ [c]) ho' fun x hx => by
          rcases List.mem_append.mp hx with hx | hx
          · exact hm x hx
          · simp only [List.mem_singleton] at hx; subst hx; exact hc
        rw [List.map_append, List.map_singleton] at h1 h2
        rw [if_pos ⟨hs, hin'⟩, if_pos ⟨hc, hin⟩, if_neg hin', if_neg hin]
        exact ⟨h1, by rw [h2]⟩
    · obtain ⟨h1, h2⟩ := sh_met t met ho' hm
      rw [sh_pos hc, if_neg (fun h => hc h.1), if_neg (fun h => hc h.1), if_neg hc, if_neg hc]
      exact ⟨h1, by rw [h2]⟩
def shR (b : Int) (r : Ru) : Ru := (r.1.map (shC b), r.2.map (shC b))
theorem met_neg (t : List Int) : ∀ x ∈ metGo [] t, x < 0 := fun x hx => by
  rcases (mem_metGo t [] x).mp hx with h | h
  · cases h
  · exact h.2
theorem sh_vkey {b : Int} {r : Ru} (h1 : ShOk b r.1) (h2 : ShOk b r.2) : vkey (shR b r) = vkey r := by
  have a1 := sh_met r.1 [] h1 (by simp)
  have a2 := sh_met r.2 (metGo [] r.1) h2 (met_neg r.1)
  simp only [List.map_nil] at a1
  unfold vkey shR
  simp only [canonL]
  rw [a1.1, a1.2, a2.2]
theorem sh_scan {sg : Sg} {b : Int} {t : List Int} {n : Nat} (ho : ShOk b t) (hs : scan sg n t = 0) : scan sg n (t.map (shC b)) = 0 := by
  rw [← hs]
  refine scan_congr sg _ _ n (by simp) fun i x y hx hy => ?_
  rw [List.getElem?_map, hy] at hx
  simp only [Option.map_some, Option.some.injEq] at hx
  subst hx
  by_cases hc : y < 0
  · have h1 := ho y (List.mem_of_getElem? hy) hc
    have h2 := scan_codes sg t n hs y (List.mem_of_getElem? hy)
    rw [sh_neg hc]
    exact .inr ⟨h1.2, hc, h1.1, h2.1⟩
  · exact .inl (sh_pos hc)
theorem ruleE_mk {sig : List Sy} {r : Ru} (h1 : scan (S2 sig) 1 r.1 = 0) (h2 : scan (S2 sig) 1 r.2 = 0) (h3 : r.1.length ≤ 512) (h4 : r.2.length ≤ 512) (h5 : 0 ≤ r.1.headD 0) (h6 : ∀ v ∈ vars r.2, v ∈ vars r.1) : ruleE sig r = 0 := by
  rw [ruleE_rest h1 h2, if_neg (by omega), if_neg (by omega), if_pos]
  rw [List.all_eq_true]
  intro v hv
  exact decide_eq_true (h6 v hv)
theorem sh_rule {sig : List Sy} {b : Int} {r : Ru} (h : ruleE sig r = 0) (o1 : ShOk b r.1) (o2 : ShOk b r.2) : ruleE sig (shR b r) = 0 := by
  obtain ⟨h1, h2, h3, h4, h5, h6⟩ := ruleE_ok h
  refine ruleE_mk (sh_scan o1 h1) (sh_scan o2 h2) (by simpa [shR] using h3) (by simpa [shR] using h4) ?_ ?_
  · show 0 ≤ (r.1.map (shC b)).headD 0
    cases hr : r.1 with
    | nil => simp
    | cons c t =>
      rw [hr] at h5
      have h5 : 0 ≤ c := h5
      show 0 ≤ shC b c
      rw [sh_pos (by omega)]; exact h5
  · intro v hv
    obtain ⟨x, hx, hx0, rfl⟩ := mem_vars.mp hv
    obtain ⟨c, hc, rfl⟩ := List.mem_map.mp hx
    have hcn : c < 0 := by
      by_cases hcn : c < 0
      · exact hcn
      · rw [sh_pos hcn] at hx0; exact absurd hx0 hcn
    have hv2 : (-1 - c) ∈ vars r.2 := mem_vars.mpr ⟨c, hc, hcn, rfl⟩
    obtain ⟨d, hd, hdn, hde⟩ := mem_vars.mp (h6 _ hv2)
    have : d = c := by omega
    subst this
    exact mem_vars.mpr ⟨shC b d, List.mem_map_of_mem hd, hx0, rfl⟩
theorem right_mk {S : Sm} (h1 : plainE S.sig = 0) (h2 : S.rules.length ≤ 64) (h3 : ∀ r ∈ S.rules, ruleE S.sig r = 0) : rightS S = true := by
  unfold rightS chkSys
  rw [if_neg (by simpa using h1), if_neg (by omega), beq_iff_eq]
  have : ∀ (rs : List Ru) (i : Nat), (∀ r ∈ rs, ruleE S.sig r = 0) → (rulesE S.sig i rs).1 = 0 := by
    intro rs
    induction rs with
    | nil => intro i _; rfl
    | cons r rs ih =>
      intro i h
      unfold rulesE
      rw [if_neg (by simpa using h r (by simp))]
      exact ih (i + 1) fun x hx => h x (by simp [hx])
  exact this _ 0 h3
theorem same_mk {a b : Sm} (h1 : rightS a = true) (h2 : rightS b = true) (h3 : a.sig = b.sig) (h4 : (a.rules.map vkey).Perm (b.rules.map vkey)) : sameS a b = true := by
  have hl := h4.length_eq
  rw [List.length_map, List.length_map] at hl
  unfold sameS
  rw [h1, h2, decide_eq_true h3, decide_eq_true hl, List.isPerm_iff.mpr h4]; rfl
end Go.Proofs.YtnlhnlmnlfmojaaGreatDoor.Am
