/-
  Packed: The document's example; the first two laws. Contracts of Go's library, as readings of calls. Variables that are moved.
-/
import Derived.Test.YtnlhnlmnlfmojaaDoorPkT
import Derived.Test.YtnlhnlmnlfmojaaDoorSysLay
import Derived.Test.YtnlhnlmnlfmojaaDoorPkB
set_option linter.unusedVariables false
set_option linter.unusedSimpArgs false
set_option linter.unnecessarySimpa false
namespace Go.Proofs.YtnlhnlmnlfmojaaDoor.Am
open Go Go.Proofs Sys Go.Lib
set_option linter.unusedVariables false
set_option linter.unusedSimpArgs false
set_option maxRecDepth 100000
variable {D : Orc} {T : H → Prop}

def adSig : List Sy := [(ByteArray.mk #[122, 101, 114, 111], 0), (ByteArray.mk #[115], 1), (ByteArray.mk #[112, 108, 117, 115], 2)]
def adS : Sm := ⟨adSig, [([2, 0, -2], [-2]), ([2, 1, -1, -2], [1, 2, -1, -2])]⟩
def adT : Sm := ⟨adSig, [([2, 1, -1, -2], [1, 2, -1, -2]), ([2, 0, -2], [-2])]⟩
def adBad : Sm := ⟨adSig, [([2, 1, -1, -2], [-3]), ([2, 0, -2], [-2])]⟩
theorem ad_chk : chkSys adS = (0, 0) := by kernel_rfl
theorem ad_def : defL adS = [2] := by kernel_rfl
theorem ad_same : sameS adS adT = true := by kernel_rfl
theorem ad_bad : chkSys adBad = (72, 0) := by kernel_rfl
theorem ad_other : sameS adS adBad = false := by kernel_rfl
/-- A new row of numbers. -/
theorem ir_new {h : H} {b n : Nat} {l : List Int} (hb : h b = some (.cells (Z l))) (hn : l.length = n) (hl : n < 2 ^ 40) (hr : ∀ x ∈ l, inI x) : Ir h (.slice (some ⟨b, 0, none⟩) n n) l :=
  ⟨Row.cells hb (by rw [Z_len, hn]), by omega, hr⟩
theorem rr_two {h : H} {b : Nat} {v1 w1 v2 w2 : Value} {r1 r2 : Ru} (hb : h b = some (.cells [v1, w1, v2, w2])) (a1 : Ir h v1 r1.1) (a2 : Ir h w1 r1.2) (a3 : Ir h v2 r2.1) (a4 : Ir h w2 r2.2) : Rr h (.slice (some ⟨b, 0, none⟩) 2 2) [r1, r2] := by
  refine ⟨⟨[(v1, w1), (v2, w2)], RowK.cells hb rfl (by intro v hv; simp only [ruRow, List.map_cons, List.map_nil, List.mem_cons, List.not_mem_nil, or_false] at hv; rcases hv with rfl | rfl <;> rfl) rfl, rfl, fun i v hv => ?_⟩, by simp⟩
  match i with
  | 0 => simp only [List.getElem?_cons_zero, Option.some.injEq] at hv; subst hv; exact ⟨r1, rfl, a1, a2⟩
  | 1 => simp only [List.getElem?_cons_succ, List.getElem?_cons_zero, Option.some.injEq] at hv; subst hv; exact ⟨r2, rfl, a3, a4⟩
  | i + 2 => simp at hv
/-- The example lies in new blocks. -/
structure Ad (h0 h : H) (b1 b2 : Nat) (s4 s6 s8 s10 : Value) : Prop where
  ext : Ext h0 h
  sig : Sr h (.slice (some ⟨b1, 0, none⟩) 3 3) adSig
  row : h b2 = some (.cells [s4, s6, s8, s10])
  new : h0 b2 = none
  ne : b1 ≠ b2
  i4 : Ir h s4 [2, 0, -2]
  i6 : Ir h s6 [-2]
  i8 : Ir h s8 [2, 1, -1, -2]
  i10 : Ir h s10 [1, 2, -1, -2]
  off : ∀ s, s = s4 ∨ s = s6 ∨ s = s8 ∨ s = s10 → Blk s ≠ some b2
def adV (b1 b2 : Nat) : Value := .agg #[.slice (some ⟨b1, 0, none⟩) 3 3, .slice (some ⟨b2, 0, none⟩) 2 2]
theorem sr_new {h : H} {b : Nat} (hb : h b = some (.cells (sgRow adSig).flatten)) : Sr h (.slice (some ⟨b, 0, none⟩) 3 3) adSig :=
  ⟨RowK.cells hb rfl (fun v hv => by simp only [sgRow, List.mem_map] at hv; obtain ⟨x, _, rfl⟩ := hv; rfl) rfl, by simp [adSig], fun x hx => by
    simp only [adSig, List.mem_cons, List.not_mem_nil, or_false] at hx
    rcases hx with rfl | rfl | rfl <;> decide⟩
theorem spec26 (c : Cl26 D) {h : H} {k : Kv} {kp : Kp} (hk : ∀ b1 b2 s4 s6 s8 s10 h', Ad h h' b1 b2 s4 s6 s8 s10 → k (adV b1 b2) h') : D 26 [] h k kp := by
  refine c _ _ _ ?_
  unfold F26
  intro p0 hp0
  have e0 : Ext h (h.set p0 (.cells [Value.slice none 0 0, Value.slice none 0 0])) := Ext.new hp0
  have b0 : (h.set p0 (.cells [Value.slice none 0 0, Value.slice none 0 0])) p0 = some (.cells [Value.slice none 0 0, Value.slice none 0 0]) := set_here
  generalize h.set p0 (.cells [Value.slice none 0 0, Value.slice none 0 0]) = h1 at e0 b0 ⊢
  refine ⟨rfl, by decide, rfl, by decide, rfl, by decide, rfl, by decide, rfl, by decide, by trivial, by decide, by trivial, by decide, by trivial, by decide, fun q1 hq1 => ?_⟩
  have e1 : Ext h1 (h1.set q1 (.cells (sgRow adSig).flatten)) := Ext.new hq1
  have g1 : (h1.set q1 (.cells (sgRow adSig).flatten)) q1 = some (.cells (sgRow adSig).flatten) := set_here
  change _ ∧ _ ∧ _ ∧ _ ∧ _ ∧ _ ∧ newSl (h1.set q1 (.cells (sgRow adSig).flatten)) _ _ _
  generalize h1.set q1 (.cells (sgRow adSig).flatten) = h2 at e1 g1 ⊢
  refine ⟨rfl, by decide, rfl, by decide, rfl, by decide, fun q2 hq2 => ?_⟩
  have e2 : Ext h2 (h2.set q2 (.cells (Z [2, 0, -2]))) := Ext.new hq2
  have g2 : (h2.set q2 (.cells (Z [2, 0, -2]))) q2 = some (.cells (Z [2, 0, -2])) := set_here
  change _ ∧ _ ∧ newSl (h2.set q2 (.cells (Z [2, 0, -2]))) _ _ _
  generalize h2.set q2 (.cells (Z [2, 0, -2])) = h3 at e2 g2 ⊢
  refine ⟨rfl, by decide, fun q3 hq3 => ?_⟩
  have e3 : Ext h3 (h3.set q3 (.cells (Z [-2]))) := Ext.new hq3
  have g3 : (h3.set q3 (.cells (Z [-2]))) q3 = some (.cells (Z [-2])) := set_here
  change _ ∧ _ ∧ _ ∧ _ ∧ _ ∧ _ ∧ _ ∧ _ ∧ _ ∧ _ ∧ _ ∧ _ ∧ newSl (h3.set q3 (.cells (Z [-2]))) _ _ _
  generalize h3.set q3 (.cells (Z [-2])) = h4 at e3 g3 ⊢
  refine ⟨rfl, by decide, rfl, by decide, rfl, by decide, rfl, by decide, rfl, by decide, rfl, by decide, fun q4 hq4 => ?_⟩
  have e4 : Ext h4 (h4.set q4 (.cells (Z [2, 1, -1, -2]))) := Ext.new hq4
  have g4 : (h4.set q4 (.cells (Z [2, 1, -1, -2]))) q4 = some (.cells (Z [2, 1, -1, -2])) := set_here
  change _ ∧ _ ∧ _ ∧ _ ∧ _ ∧ _ ∧ _ ∧ _ ∧ newSl (h4.set q4 (.cells (Z [2, 1, -1, -2]))) _ _ _
  generalize h4.set q4 (.cells (Z [2, 1, -1, -2])) = h5 at e4 g4 ⊢
  refine ⟨rfl, by decide, rfl, by decide, rfl, by decide, rfl, by decide, fun q5 hq5 => ?_⟩
  have e5 : Ext h5 (h5.set q5 (.cells (Z [1, 2, -1, -2]))) := Ext.new hq5
  have g5 : (h5.set q5 (.cells (Z [1, 2, -1, -2]))) q5 = some (.cells (Z [1, 2, -1, -2])) := set_here
  change _ ∧ _ ∧ _ ∧ _ ∧ _ ∧ _ ∧ _ ∧ _ ∧ newSl (h5.set q5 (.cells (Z [1, 2, -1, -2]))) _ _ _
  generalize h5.set q5 (.cells (Z [1, 2, -1, -2])) = h6 at e5 g5 ⊢
  refine ⟨rfl, by decide, rfl, by decide, by trivial, by decide, by trivial, by decide, fun q6 hq6 => ?_⟩
  generalize hv4 : (Value.slice (some ⟨q2, 0, none⟩) 3 3) = s4
  generalize hv6 : (Value.slice (some ⟨q3, 0, none⟩) 1 1) = s6
  generalize hv8 : (Value.slice (some ⟨q4, 0, none⟩) 4 4) = s8
  generalize hv10 : (Value.slice (some ⟨q5, 0, none⟩) 4 4) = s10
  have e6 : Ext h6 (h6.set q6 (.cells [s4, s6, s8, s10])) := Ext.new hq6
  have g6 : (h6.set q6 (.cells [s4, s6, s8, s10])) q6 = some (.cells [s4, s6, s8, s10]) := set_here
  change _ ∧ _ ∧ _ ∧ _ ∧ ptrW _ (fun ad14 => _ ∧ _ ∧ ∃ h15, wr (h6.set q6 (.cells [s4, s6, s8, s10])) ad14 _ = some h15 ∧ _)
  generalize h6.set q6 (.cells [s4, s6, s8, s10]) = h7 at e6 g6 ⊢
  have f2 := ((e2.trans e3).trans (e4.trans e5)).trans e6
  have f1 := e1.trans f2
  have f0 := e0.trans f1
  have k2 := (((e3.trans e4).trans e5).trans e6) _ _ g2
  have k3 := ((e4.trans e5).trans e6) _ _ g3
  have k4 := (e5.trans e6) _ _ g4
  have k5 := e6 _ _ g5
  have k1 := f2 _ _ g1
  have hq6' : ∀ q o, h6 q = some o → q ≠ q6 := fun q o hq hh => by subst hh; rw [hq6] at hq; cases hq
  have n2 := hq6' q2 _ (((e3.trans e4).trans e5) _ _ g2)
  have n3 := hq6' q3 _ ((e4.trans e5) _ _ g3)
  have n4 := hq6' q4 _ (e5 _ _ g4)
  have n5 := hq6' q5 _ g5
  have n1 := hq6' q1 _ (((e2.trans e3).trans (e4.trans e5)) _ _ g1)
  have p0ne : ∀ q o, h7 q = some o → h1 q = none → q ≠ p0 := fun q o hq hn hh => by subst hh; rw [b0] at hn; cases hn
  have b0' := f1 _ _ b0
  refine ⟨rfl, by decide, rfl, by decide, ?_⟩
  rw [ptrW_ptr]
  refine ⟨by trivial, rfl, h7.set p0 (.cells [.slice (some ⟨q1, 0, none⟩) 3 3, .slice (some ⟨q6, 0, none⟩) 2 2]), ?_, ?_⟩
  · simp only [wr, b0']
    rfl
  rw [ptrW_ptr]
  refine ⟨_, _, rd2 set_here, ?_⟩
  have away : ∀ q, q ≠ p0 → (h7.set p0 (.cells [.slice (some ⟨q1, 0, none⟩) 3 3, .slice (some ⟨q6, 0, none⟩) 2 2])) q = h7 q := fun q hq => set_away hq
  have d1 : q1 ≠ p0 := fun hh => by subst hh; rw [b0] at hq1; cases hq1
  have d2 : q2 ≠ p0 := fun hh => by subst hh; rw [e1 _ _ b0] at hq2; cases hq2
  have d3 : q3 ≠ p0 := fun hh => by subst hh; rw [(e1.trans e2) _ _ b0] at hq3; cases hq3
  have d4 : q4 ≠ p0 := fun hh => by subst hh; rw [((e1.trans e2).trans e3) _ _ b0] at hq4; cases hq4
  have d5 : q5 ≠ p0 := fun hh => by subst hh; rw [(((e1.trans e2).trans e3).trans e4) _ _ b0] at hq5; cases hq5
  have d6 : q6 ≠ p0 := fun hh => by subst hh; rw [((((e1.trans e2).trans e3).trans e4).trans e5) _ _ b0] at hq6; cases hq6
  have hnew : h q6 = none := (e0.trans ((((e1.trans e2).trans e3).trans e4).trans e5)).free hq6
  refine hk q1 q6 s4 s6 s8 s10 _ ⟨f0.set hp0, sr_new (by rw [away _ d1]; exact k1), by rw [away _ d6]; exact g6, hnew, n1, ?_, ?_, ?_, ?_, ?_⟩
  · subst hv4; exact ir_new (by rw [away _ d2]; exact k2) rfl (by decide) (by intro x hx; simp only [List.mem_cons, List.not_mem_nil, or_false] at hx; unfold inI; omega)
  · subst hv6; exact ir_new (by rw [away _ d3]; exact k3) rfl (by decide) (by intro x hx; simp only [List.mem_cons, List.not_mem_nil, or_false] at hx; unfold inI; omega)
  · subst hv8; exact ir_new (by rw [away _ d4]; exact k4) rfl (by decide) (by intro x hx; simp only [List.mem_cons, List.not_mem_nil, or_false] at hx; unfold inI; omega)
  · subst hv10; exact ir_new (by rw [away _ d5]; exact k5) rfl (by decide) (by intro x hx; simp only [List.mem_cons, List.not_mem_nil, or_false] at hx; unfold inI; omega)
  · intro s hs
    have hb : ∀ q n, q ≠ q6 → Blk (.slice (some ⟨q, 0, none⟩) n (n + 1)) ≠ some q6 := fun q n hq hb => hq (by rw [Blk_some (by omega)] at hb; exact Option.some.inj hb)
    subst hv4 hv6 hv8 hv10
    rcases hs with rfl | rfl | rfl | rfl
    · rw [Blk_some (by decide)]; exact fun h => n2 (Option.some.inj h)
    · rw [Blk_some (by decide)]; exact fun h => n3 (Option.some.inj h)
    · rw [Blk_some (by decide)]; exact fun h => n4 (Option.some.inj h)
    · rw [Blk_some (by decide)]; exact fun h => n5 (Option.some.inj h)
theorem Ad.ss {h0 h : H} {b1 b2 : Nat} {s4 s6 s8 s10 : Value} (a : Ad h0 h b1 b2 s4 s6 s8 s10) : Ss h (adV b1 b2) adS :=
  ⟨⟨_, _, rfl, a.sig, rr_two a.row a.i4 a.i6 a.i8 a.i10⟩⟩
/-- The example holds. -/
theorem spec9 (hT : Stays T) (c : Cl9 D) (c26 : Cl26 D) (s10 : SpecSys D 10 T) (s12 : SpecDef D 12 T) (s15 : SpecSame D 15 T) {h : H} {k : Kv} {kp : Kp} (ht : T h) (hk : ∀ h', Ext h h' → k (.bool true) h') : D 9 [] h k kp := by
  refine c _ _ _ ?_
  unfold F9
  refine spec26 c26 fun b1 b2 x4 x6 x8 x10 h1 ad => ⟨_, _, rfl, ?_⟩
  have hs1 := ad.ss
  have e1 := ad.ext
  refine two_rule rfl rfl (by trivial) fun p4 h2 _ hp4 e2 => ?_
  rw [ptrW_ptr]
  refine ⟨_, _, rd2 hp4, ?_⟩
  refine s10 _ adS _ _ _ (hs1.ext e2) (hT _ _ (e1.trans e2) ht) fun h3 e3 => ?_
  rw [ad_chk]
  refine ⟨_, _, rfl, ?_⟩
  rw [ptrW_ptr]
  refine ⟨_, _, rd2 (e3 _ _ hp4), ?_⟩
  have e23 := e2.trans e3
  refine s12 _ adS _ _ _ (hs1.ext e23) (hT _ _ (e1.trans e23) ht) fun vd h4 ird e4 _ => ⟨vd, rfl, ?_⟩
  rw [ad_def] at ird
  have e24 := e23.trans e4
  refine spec26 c26 fun q1 q2 y4 y6 y8 y10 h5 ad2 => ⟨_, _, rfl, ?_⟩
  have e25 := e24.trans ad2.ext
  refine two_rule rfl rfl (by trivial) fun p5 h6 hp5n hp5 e6 => ?_
  have e26 := e25.trans e6
  have hq2 := e6 _ _ ad2.row
  have i4 := ad2.i4.ext e6
  have i6 := ad2.i6.ext e6
  have i8 := ad2.i8.ext e6
  have i10 := ad2.i10.ext e6
  have hsig := ad2.sig.ext e6
  -- what the example's rows rest on
  have hq2n := ad2.new
  have p5q : p5 ≠ q2 := fun hh => by subst hh; rw [ad2.row] at hp5n; cases hp5n
  rw [ptrW_ptr]
  refine ⟨_, rd_cell (i := 1) hp5 rfl, ?_⟩
  rw [ptrW_ptr]
  refine ⟨_, rd_cell (i := 1) hp5 rfl, ?_⟩
  rw [ptrW_ptr]
  refine ⟨_, rd_cell (i := 1) hp5 rfl, ?_⟩
  refine ⟨by decide, by decide, y8, y10, ?_, ?_⟩
  · rw [add_at]; simp only [rdN, hq2, rowOf, Option.bind_some]; rfl
  rw [ptrW_ptr]
  refine ⟨_, rd_cell (i := 1) hp5 rfl, ?_⟩
  refine ⟨by decide, by decide, y4, y6, ?_, ?_⟩
  · rw [add_at]; simp only [rdN, hq2, rowOf, Option.bind_some]; rfl
  refine ⟨by decide, by decide, by trivial, ?_, h6.set q2 (.cells [y8, y10, y8, y10]), ?_, ?_⟩
  · simp [ir_one i8, ir_one i10]
  · rw [add_at]; simp only [wr, hq2]; rfl
  refine ⟨rd_cell (i := 1) (by rw [set_away p5q]; exact hp5) rfl, ?_⟩
  refine ⟨by decide, by decide, by trivial, ?_, h6.set q2 (.cells [y8, y10, y4, y6]), ?_, ?_⟩
  · simp [ir_one i4, ir_one i6]
  · rw [add_at]; simp only [wr, set_here]; rw [set_twice]; rfl
  have key : ∀ d o, d ≠ q2 → h6 d = some o → (h6.set q2 (.cells [y8, y10, y4, y6])) d = some o := fun d o hd ho => by rw [set_away hd]; exact ho
  have e47 : Ext h4 (h6.set q2 (.cells [y8, y10, y4, y6])) := fun d o ho => by
    refine key d o (fun hh => ?_) (e6 _ _ (ad2.ext _ _ ho))
    subst hh; rw [hq2n] at ho; cases ho
  have e27 := e4.trans e47
  have hq2' : (h6.set q2 (.cells [y8, y10, y4, y6])) q2 = some (.cells [y8, y10, y4, y6]) := set_here
  have hp5' : (h6.set q2 (.cells [y8, y10, y4, y6])) p5 = some (.cells [.slice (some ⟨q1, 0, none⟩) 3 3, .slice (some ⟨q2, 0, none⟩) 2 2]) := key _ _ p5q hp5
  have kp_ : ∀ s, Blk s ≠ some q2 → Keep h6 (h6.set q2 (.cells [y8, y10, y4, y6])) s := fun s hs d o hd ho => key d o (fun hh => hs (by rw [hd, hh])) ho
  have j4 := i4.kept (kp_ _ (ad2.off _ (.inl rfl)))
  have j6 := i6.kept (kp_ _ (ad2.off _ (.inr (.inl rfl))))
  have j8 := i8.kept (kp_ _ (ad2.off _ (.inr (.inr (.inl rfl)))))
  have j10 := i10.kept (kp_ _ (ad2.off _ (.inr (.inr (.inr rfl)))))
  have jsig : Sr (h6.set q2 (.cells [y8, y10, y4, y6])) (.slice (some ⟨q1, 0, none⟩) 3 3) adSig := ⟨hsig.row.kept (kp_ _ (by rw [Blk_some (by decide)]; exact fun h => ad2.ne (Option.some.inj h))), hsig.len, hsig.names⟩
  generalize h6.set q2 (.cells [y8, y10, y4, y6]) = h7 at e47 e27 hq2' hp5' j4 j6 j8 j10 jsig ⊢
  have e17 : Ext h1 h7 := e23.trans e27
  have f7 : Ext h h7 := e1.trans e17
  rw [ptrW_ptr]
  refine ⟨_, _, rd2 (e27 _ _ (e3 _ _ hp4)), ?_⟩
  rw [ptrW_ptr]
  refine ⟨_, _, rd2 hp5', ?_⟩
  have hsT : Ss h7 (adV q1 q2) adT := ⟨⟨_, _, rfl, jsig, rr_two hq2' j8 j10 j4 j6⟩⟩
  refine s15 _ _ adS adT _ _ _ (hs1.ext e17) hsT (hT _ _ f7 ht) fun h8 e8 => ?_
  rw [ad_same]
  refine ⟨_, rfl, ?_⟩
  have e18 := e17.trans e8
  have hp5b := e8 _ _ hp5'
  have hq2b := e8 _ _ hq2'
  rw [ptrW_ptr]
  refine ⟨_, rd_cell (i := 1) hp5b rfl, rfl, by decide, fun n3 hn3 => ?_⟩
  have e9 : Ext h8 (h8.set n3 (.cells (Z [-3]))) := Ext.new hn3
  have g9 : (h8.set n3 (.cells (Z [-3]))) n3 = some (.cells (Z [-3])) := set_here
  have n3q : n3 ≠ q2 := fun hh => by subst hh; rw [hq2b] at hn3; cases hn3
  have hq2c := e9 _ _ hq2b
  have hp5c := e9 _ _ hp5b
  refine ⟨by decide, by decide, rfl, by trivial, (h8.set n3 (.cells (Z [-3]))).set q2 (.cells [y8, .slice (some ⟨n3, 0, none⟩) 1 1, y4, y6]), ?_, ?_⟩
  · change wr1 (h8.set n3 (.cells (Z [-3]))) _ _ = _
    rw [add_at]
    exact wr_cell (i := 1) hq2c (by simp)
  change ptrW _ (fun ad62 => ∃ v63 : Value, ∃ v64 : Value, rdN ((h8.set n3 (.cells (Z [-3]))).set q2 (.cells [y8, .slice (some ⟨n3, 0, none⟩) 1 1, y4, y6])) ad62 2 = some [v63, v64] ∧ _)
  generalize h8.set n3 (.cells (Z [-3])) = h9 at e9 g9 hq2c hp5c ⊢
  have key2 : ∀ d o, d ≠ q2 → h9 d = some o → (h9.set q2 (.cells [y8, .slice (some ⟨n3, 0, none⟩) 1 1, y4, y6])) d = some o := fun d o hd ho => by rw [set_away hd]; exact ho
  have kp2 : ∀ s, Blk s ≠ some q2 → Keep h9 (h9.set q2 (.cells [y8, .slice (some ⟨n3, 0, none⟩) 1 1, y4, y6])) s := fun s hs d o hd ho => key2 d o (fun hh => hs (by rw [hd, hh])) ho
  have e89 := e8.trans e9
  have l4 := (j4.ext e89).kept (kp2 _ (ad2.off _ (.inl rfl)))
  have l6 := (j6.ext e89).kept (kp2 _ (ad2.off _ (.inr (.inl rfl))))
  have l8 := (j8.ext e89).kept (kp2 _ (ad2.off _ (.inr (.inr (.inl rfl)))))
  have i3 : Ir h9 (.slice (some ⟨n3, 0, none⟩) 1 1) [-3] := ir_new g9 rfl (by decide) (by intro x hx; simp only [List.mem_cons, List.not_mem_nil, or_false] at hx; unfold inI; omega)
  have l3 := i3.kept (kp2 _ (by rw [Blk_some (by decide)]; exact fun h => n3q (Option.some.inj h)))
  have lsr := jsig.ext e89
  have lsig : Sr (h9.set q2 (.cells [y8, .slice (some ⟨n3, 0, none⟩) 1 1, y4, y6])) (.slice (some ⟨q1, 0, none⟩) 3 3) adSig := ⟨lsr.row.kept (kp2 _ (by rw [Blk_some (by decide)]; exact fun h => ad2.ne (Option.some.inj h))), lsr.len, lsr.names⟩
  have hq2d : (h9.set q2 (.cells [y8, .slice (some ⟨n3, 0, none⟩) 1 1, y4, y6])) q2 = some (.cells [y8, .slice (some ⟨n3, 0, none⟩) 1 1, y4, y6]) := set_here
  have hp5d := key2 _ _ p5q hp5c
  have e3x : Ext h3 (h9.set q2 (.cells [y8, .slice (some ⟨n3, 0, none⟩) 1 1, y4, y6])) := fun d o ho => by
    refine key2 d o (fun hh => ?_) (e89 _ _ (e27 _ _ ho))
    subst hh
    have := e4 _ _ ho
    rw [hq2n] at this; cases this
  have e4x : Ext h4 (h9.set q2 (.cells [y8, .slice (some ⟨n3, 0, none⟩) 1 1, y4, y6])) := fun d o ho => by
    have hd : d ≠ q2 := fun hh => by subst hh; rw [hq2n] at ho; cases ho
    exact key2 d o hd (e89 _ _ (e47 _ _ ho))
  generalize h9.set q2 (.cells [y8, .slice (some ⟨n3, 0, none⟩) 1 1, y4, y6]) = h10 at l4 l6 l8 l3 lsig hq2d hp5d e3x e4x ⊢
  have e1x : Ext h1 h10 := e23.trans e3x
  have fx : Ext h h10 := e1.trans e1x
  have hsB : Ss h10 (adV q1 q2) adBad := ⟨⟨_, _, rfl, lsig, rr_two hq2d l8 l3 l4 l6⟩⟩
  rw [ptrW_ptr]
  refine ⟨_, _, rd2 hp5d, ?_⟩
  refine s10 _ adBad _ _ _ hsB (hT _ _ fx ht) fun h11 e11 => ?_
  rw [ad_bad]
  refine ⟨_, _, rfl, ?_⟩
  rw [ptrW_ptr]
  refine ⟨_, _, rd2 (e11 _ _ (e3x _ _ (e3 _ _ hp4))), ?_⟩
  rw [ptrW_ptr]
  refine ⟨_, _, rd2 (e11 _ _ hp5d), ?_⟩
  refine s15 _ _ adS adBad _ _ _ (hs1.ext (e1x.trans e11)) (hsB.ext e11) (hT _ _ (fx.trans e11) ht) fun h12 e12 => ?_
  rw [ad_other]
  refine ⟨_, rfl, ?_⟩
  have e112 := e11.trans e12
  have ird2 := ird.ext (e4x.trans e112)
  show cond ((0 : Int) == 0) _ _
  rw [show ((0 : Int) == 0) = true from rfl, cond_true]
  show lenW vd _
  rw [ird2.len_]
  show cond ((([2] : List Int).length : Int) == 1) _ _
  rw [show ((([2] : List Int).length : Int) == 1) = true from rfl, cond_true]
  refine ird2.at_ (by omega) (by simp) fun ad x hx _ hrd => ⟨x, hrd, ?_⟩
  have : x = 2 := by simpa using hx.symm
  subst this
  exact hk h12 (fx.trans e112)
/-- The first law. -/
theorem spec3 (hT : Stays T) (c : Cl3 D) (c14 : Cl14 D) (s9 : ∀ {h : H} {k : Kv} {kp : Kp}, T h → (∀ h', Ext h h' → k (.bool true) h') → D 9 [] h k kp) (s10 : SpecSys D 10 T) (s11 : SpecSys D 11 T) (s12 : SpecDef D 12 T) (s13 : SpecDef D 13 T)
    {v : Value} {S : Sm} {h : H} {k : Kv} {kp : Kp} (q : Ss h v S) (ht : T h) (hk : ∀ h', Ext h h' → k (.bool true) h') : D 3 [v] h k kp := by
  obtain ⟨sa, ra, rfl, r1, r2⟩ := q.ex
  refine c _ _ _ _ ?_
  unfold F3
  rw [aggW_agg]
  intro pb hpb
  have e1 : Ext h (h.set pb (.cells #[sa, ra].toList)) := Ext.new hpb
  have b1 : (h.set pb (.cells #[sa, ra].toList)) pb = some (.cells [sa, ra]) := set_here
  generalize h.set pb (.cells #[sa, ra].toList) = h1 at e1 b1 ⊢
  refine s9 (hT _ _ e1 ht) fun h2 e2 => ⟨_, rfl, ?_⟩
  have f2 := e1.trans e2
  rw [ptrW_ptr]
  refine ⟨sa, ra, rd2 (e2 _ _ b1), ?_⟩
  refine s10 _ S _ _ _ (q.ext f2) (hT _ _ f2 ht) fun h3 e3 => ⟨_, _, rfl, ?_⟩
  have f3 := f2.trans e3
  have g3 := e2.trans e3
  rw [ptrW_ptr]
  refine ⟨sa, ra, rd2 (g3 _ _ b1), ?_⟩
  refine s11 _ S _ _ _ (q.ext f3) (hT _ _ f3 ht) fun h4 e4 => ⟨_, _, rfl, ?_⟩
  have f4 := f3.trans e4
  have g4 := g3.trans e4
  rw [ptrW_ptr]
  refine ⟨sa, ra, rd2 (g4 _ _ b1), ?_⟩
  refine s12 _ S _ _ _ (q.ext f4) (hT _ _ f4 ht) fun v5 h5 i5 e5 _ => ⟨v5, rfl, ?_⟩
  have f5 := f4.trans e5
  have g5 := g4.trans e5
  rw [ptrW_ptr]
  refine ⟨sa, ra, rd2 (g5 _ _ b1), ?_⟩
  refine s13 _ S _ _ _ (q.ext f5) (hT _ _ f5 ht) fun v6 h6 i6 e6 _ => ⟨v6, rfl, ?_⟩
  refine spec14 c14 (i5.ext e6) i6 ⟨_, rfl, ?_⟩
  rw [decide_eq_true rfl, cond_true, cond_true, beq_self_eq_true, cond_true, beq_self_eq_true]
  exact hk h6 (f5.trans e6)
/-- The second law. -/
theorem spec4 (hT : Stays T) (c : Cl4 D) (s9 : ∀ {h : H} {k : Kv} {kp : Kp}, T h → (∀ h', Ext h h' → k (.bool true) h') → D 9 [] h k kp) (s15 : SpecSame D 15 T) (s16 : SpecSame D 16 T)
    {va vb : Value} {a b : Sm} {h : H} {k : Kv} {kp : Kp} (qa : Ss h va a) (qb : Ss h vb b) (ht : T h) (hk : ∀ h', Ext h h' → k (.bool true) h') : D 4 [va, vb] h k kp := by
  obtain ⟨sa, ra, rfl, r1, r2⟩ := qa.ex
  obtain ⟨sb, rb, rfl, t1, t2⟩ := qb.ex
  refine c _ _ _ _ _ ?_
  unfold F4
  rw [aggW_agg]
  intro p1 hp1
  rw [aggW_agg]
  intro p2 hp2
  have e1 : Ext h (h.set p1 (.cells #[sa, ra].toList)) := Ext.new hp1
  have e2 : Ext (h.set p1 (.cells #[sa, ra].toList)) ((h.set p1 (.cells #[sa, ra].toList)).set p2 (.cells #[sb, rb].toList)) := Ext.new hp2
  generalize hh2 : (h.set p1 (.cells #[sa, ra].toList)).set p2 (.cells #[sb, rb].toList) = h2 at e2 ⊢
  have b1 : h2 p1 = some (.cells [sa, ra]) := e2 _ _ set_here
  have b2 : h2 p2 = some (.cells [sb, rb]) := by rw [← hh2]; exact set_here
  have e12 := e1.trans e2
  refine s9 (hT _ _ e12 ht) fun h3 e3 => ⟨_, rfl, ?_⟩
  have f3 := e12.trans e3
  rw [ptrW_ptr]
  refine ⟨sa, ra, rd2 (e3 _ _ b1), ?_⟩
  rw [ptrW_ptr]
  refine ⟨sb, rb, rd2 (e3 _ _ b2), ?_⟩
  refine s15 _ _ a b _ _ _ (qa.ext f3) (qb.ext f3) (hT _ _ f3 ht) fun h4 e4 => ⟨_, rfl, ?_⟩
  have f4 := f3.trans e4
  have g4 := e3.trans e4
  rw [ptrW_ptr]
  refine ⟨sa, ra, rd2 (g4 _ _ b1), ?_⟩
  rw [ptrW_ptr]
  refine ⟨sb, rb, rd2 (g4 _ _ b2), ?_⟩
  refine s16 _ _ a b _ _ _ (qa.ext f4) (qb.ext f4) (hT _ _ f4 ht) fun h5 e5 => ⟨_, rfl, ?_⟩
  rw [cond_true, beq_self_eq_true]
  exact hk h5 (f4.trans e5)
end Go.Proofs.YtnlhnlmnlfmojaaDoor.Am

namespace Go.Proofs.YtnlhnlmnlfmojaaDoor.Am
open Go Go.Proofs Sys Go.Lib Go.Shelf Go.RowKit Go.Maps Go.Sort
set_option linter.unusedVariables false
set_option linter.unusedSimpArgs false
set_option maxRecDepth 100000

/-- The tables of Go's decoder lie in the heap, as their initialisers lay them. -/
def Tabs (h : H) : Prop := ∃ l3 l4, h 0 = some (.ro l3) ∧ h 1 = some (.ro l4) ∧ (∀ c, c < 256 → l3[c]? = some (.int .u8 (firstT c))) ∧
  ∀ i, i < 16 → l4[2 * i]? = some (.int .u8 (accLo i)) ∧ l4[2 * i + 1]? = some (.int .u8 (accHi i))
theorem tabs_stay : Stays Tabs := fun h h' e ⟨l3, l4, a, b, c, d⟩ => ⟨l3, l4, e _ _ a, e _ _ b, c, d⟩
theorem cell_ro {h : H} {W : World} (r : Rel h W) {b i : Nat} {l : List Value} {v : Value} (hb : h b = some (.ro l)) (hi : l[i]? = some v) : W.cell? ⟨b, i, none⟩ = some v := by
  obtain ⟨t, fz, hm⟩ := r b _ hb
  unfold World.cell?
  rw [hm]
  simpa using hi
theorem tabs_world {h : H} {W : World} (r : Rel h W) (ht : Tabs h) : Utf8Tabs 0 1 W := by
  obtain ⟨l3, l4, a, b, c, d⟩ := ht
  exact ⟨fun i hi => cell_ro r a (c i hi), fun i hi => ⟨cell_ro r b (d i hi).1, cell_ro r b (d i hi).2⟩⟩
theorem spec88 : SpecValid (CS Tryd.prog) 88 Tabs := by
  intro s h k kp hs ht hk
  refine cs_below (v := .bool (validD s.data.toList)) (fun W r => ?_) hk
  exact Any.utf8_ValidString Tryd.laysValid s W (by omega) (tabs_world r ht)
theorem heap_new (W : World) (o : Obj) : (W.alloc o).heap[W.heap.size]? = some o := Array.getElem?_push_size
theorem spec33 : SpecKeys (CS Tryd.prog) := by
  intro m h k kp hk W R r hv hp
  have hc : Calls Tryd.prog 33 #[.map m] W fun e w' => e = .returned (.func (.func 65) #[] #[.pointer (some ⟨W.heap.size, 0, none⟩)]) ∧ w' = W.alloc (.cells #[.map m] 51) :=
    (callsIn_wide (n := 6)).1 (AnyZI.keys_in Tryd.keysA Fence.wide 6 trivial rfl m W)
  refine hc.mono fun e w' he => ?_
  obtain ⟨rfl, rfl⟩ := he
  have hn := r.fresh
  have hb : Below W.heap.size W (W.alloc (.cells #[.map m] 51)) := (Below.refl _ W).alloc (Nat.le_refl _) _
  have hm : OMatch (W.alloc (.cells #[.map m] 51)).heap[W.heap.size]? (.cells [.map m]) := ⟨51, (0, 0), heap_new W _, fun j _ => by omega⟩
  obtain ⟨r2, f2⟩ := rel_new r hb (Nat.le_refl _) hm
  exact hv _ _ _ (hk _ hn) r2 f2
theorem sorts (m : Nat) : AnyZI.SortsIn Tryd.prog Tryd.sortedA_ren Fence.wide m :=
  ⟨fun blk off cap ss W hH hblk hsz => callsIn_wide.2 (AnyM.slices_Sort_int Tryd.sortA blk off cap ss W hH hblk hsz),
   fun p cap W => callsIn_wide.2 (AnyM.slices_Sort_int_none Tryd.sortA p cap W)⟩
def anyR (_ : Value) : Option (DataW Unit × List MemPlace) := some (.lit (.bool true), [])
theorem rd_any {x : Int} {e : MapEntry} (hk : e.key = .int .i64 x) (hx : inI x) : Go.WideElems.rd Tryd.prog 3 anyR e = some (.int .i64 x, .lit (.bool true)) := by
  have hw : (Lit.int .i64 x).wf = true := by
    unfold inI at hx
    simp [Lit.wf, IntKind.min, IntKind.max, IntKind.bits, IntKind.signed]
    omega
  unfold Go.WideElems.rd
  rw [hk, keyOf_int_mk (show Tryd.prog.underlying 3 = some (.int .i64) by kernel_rfl) hw]
  rfl
theorem spec32 : SpecSorted (CS Tryd.prog) := by
  intro c b es cl ks h k kp hc hb mi hrng hlen hk W R r hv hp
  obtain ⟨t, fz, hcm, _⟩ := r c _ hc
  have hbm : W.heap[b]? = some (.map es.toArray cl) := r b _ hb
  have hcl := r.lt hc
  have hel : es.length = ks.length := by have := congrArg List.length mi.keys; simpa using this
  have hkey : ∀ e ∈ es, ∃ x ∈ ks, e.key = .int .i64 x := fun e he => by
    have h1 : e.key ∈ es.map (·.key) := List.mem_map_of_mem he
    rw [mi.keys] at h1
    obtain ⟨x, hx, hxe⟩ := List.mem_map.mp h1
    exact ⟨x, hx, hxe.symm⟩
  have hmax : maxLen = 9223372036854775807 := by decide
  have hown : W.ownsMap Tryd.prog 3 anyR b es.length (.map ((es.map (Go.WideElems.rg Tryd.prog 3 anyR)).foldr DataW.insert [])) := by
    refine ⟨es.toArray, cl, hbm, ⟨by simp; omega, mi.st, fun x hx => ?_⟩, by simp, by simp⟩
    obtain ⟨y, hy, hye⟩ := hkey x (by simpa using hx)
    exact ⟨_, rd_any hye (hrng y hy)⟩
  have hkeys : (intKeys (DataW.map ((es.map (Go.WideElems.rg Tryd.prog 3 anyR)).foldr DataW.insert []))).Perm ks := by
    show (List.map _ _).Perm ks
    refine ((Go.WideShapes.sorted_perm _).map _).trans ?_
    have : (es.map (Go.WideElems.rg Tryd.prog 3 anyR)).map (fun p => Go.intOf p.1) = ks := by
      rw [List.map_map]
      have hgo : ∀ (es : List MapEntry) (ks : List Int), KeysAre es ks → (∀ x ∈ ks, inI x) → es.map ((fun p => Go.intOf p.1) ∘ Go.WideElems.rg Tryd.prog 3 anyR) = ks := by
        intro es
        induction es with
        | nil => intro ks hk _; cases ks <;> simp [KeysAre] at hk ⊢
        | cons e es ih =>
          intro ks hk hr
          cases ks with
          | nil => simp [KeysAre] at hk
          | cons y ks =>
            simp only [KeysAre, List.map_cons, List.cons.injEq] at hk
            rw [List.map_cons, ih ks hk.2 fun x hx => hr x (by simp [hx])]
            congr 1
            simp only [Function.comp]
            unfold Go.WideElems.rg
            rw [rd_any hk.1 (hr y (by simp))]
            rfl
      exact hgo es ks mi.keys hrng
    rw [this]
  have hsz : Maps.size (DataW.map ((es.map (Go.WideElems.rg Tryd.prog 3 anyR)).foldr DataW.insert [])) ≤ 1048576 := by
    have := hkeys.length_eq
    simp only [intKeys, List.length_map] at this
    simp only [Maps.size]
    omega
  have hcell : W.cell? ⟨c, 0, none⟩ = some (.map (some b)) := by
    unfold World.cell?
    rw [hcm]; rfl
  have hseq : SeqGives Fence.wide 2 Tryd.prog 65 #[.pointer (some ⟨c, 0, none⟩)] encZ (fun ss => ss.Perm (intKeys (DataW.map ((es.map (Go.WideElems.rg Tryd.prog 3 anyR)).foldr DataW.insert [])))) (Maps.size (DataW.map ((es.map (Go.WideElems.rg Tryd.prog 3 anyR)).foldr DataW.insert []))) W :=
    AnyZI.keys_gives (ρ := Tryd.keysA_ren) { Tryd.keysA with } Fence.wide _ trivial rfl (by omega) c b es.length _ _ hcl hcell hown
  have cS := AnyZI.sorted_in Tryd.sortedA Fence.wide 5 trivial trivial trivial trivial rfl (by omega) (sorts _) (enters_of Tryd.func64 (by kernel_rfl) rfl) 65 #[.pointer (some ⟨c, 0, none⟩)] trivial (enters_of Tryd.func65 (by kernel_rfl) rfl) _ _ (by omega) (by omega) _ hseq
  change CallsIn _ _ Tryd.prog 32 _ _ _ at cS
  refine ((callsIn_wide (n := 5)).1 cS).mono fun e w' he => ?_
  obtain ⟨v, ss, rfl, hS, hrow, hnil, hbl⟩ := he
  have hsort : ss.mergeSort (fun x y => decide (x ≤ y)) = ks.mergeSort (fun x y => decide (x ≤ y)) := mergeSort_of_perm_i (hS.trans hkeys)
  rw [hsort] at hrow
  have hssl : ss.length = ks.length := (hS.trans hkeys).length_eq
  have hml : (ks.mergeSort (fun x y => decide (x ≤ y))).length = ks.length := List.length_mergeSort _
  have hmr : ∀ x ∈ ks.mergeSort (fun x y => decide (x ≤ y)), inI x := fun x hx => hrng x (by rw [List.mem_mergeSort] at hx; exact hx)
  rcases hrow.2 with ⟨rfl, hz⟩ | ⟨g, cap, cur, rfl, hg1, hg2, hg3, hg4, hg5, hg6⟩
  · have hks : ks.mergeSort (fun x y => decide (x ≤ y)) = [] := List.length_eq_zero_iff.mp (by omega)
    have r2 := r.below hbl
    refine hv _ _ _ (hk _ h ?_ (Ext.refl _) fun d hd => by rw [Blk_nil] at hd; cases hd) r2 (frame_below hbl)
    rw [hks]
    exact ⟨Row.nil_, by simp, by simp⟩
  · obtain ⟨r2, f2⟩ := rel_new r hbl hg1 (l := cur.toList) ⟨_, (0, 0), by simpa using hg2, fun j _ => by omega⟩
    have hgn : h g = none := by
      cases hx : h g with
      | none => rfl
      | some o => exact absurd (r.lt hx) (by omega)
    refine hv _ _ _ (hk _ _ ⟨?_, by omega, hmr⟩ (Ext.new hgn) fun d hd => ?_) r2 f2
    rotate_left
    · by_cases h0 : cap = 0
      · subst h0; rw [Blk_nil] at hd; cases hd
      · rw [Blk_some h0] at hd; cases hd; exact hgn
    have hZ : (Z (ks.mergeSort (fun x y => decide (x ≤ y)))).length = ss.length := by rw [Z_len, hml, hssl]
    refine ⟨some ⟨g, 0, none⟩, cap, by rw [hZ], by rw [hZ]; exact hg3, .inr ⟨_, rfl, rfl, cur.toList, by show rowOf ((h.set g (.cells cur.toList)) g) = _; rw [set_here]; rfl, ?_, ?_⟩⟩
    · show 0 + cap ≤ cur.toList.length
      rw [Array.length_toList]; omega
    · rw [hZ]
      have := hg6
      rw [Nat.mul_one] at this
      exact this
end Go.Proofs.YtnlhnlmnlfmojaaDoor.Am

namespace Go.Proofs.YtnlhnlmnlfmojaaDoor.Am
open Go Go.Proofs Sys Go.Lib
set_option linter.unusedVariables false
set_option linter.unusedSimpArgs false
set_option maxRecDepth 100000
variable {D : Orc} {T : H → Prop}

def shC (by_ c : Int) : Int := if c < 0 then c - by_ else c
def ShOk (by_ : Int) (l : List Int) : Prop := ∀ c ∈ l, c < 0 → -1048576 ≤ c - by_ ∧ c - by_ < 0
theorem spec18 (c : Cl18 D) {t : Value} {l : List Int} {by_ : Int} {h : H} {k : Kv} {kp : Kp} (q : Ir h t l) (hby : inI by_)
    (hbad : ∀ h', Ext h h' → k (.tuple #[.slice none 0 0, .int .i64 40]) h') (hk : ∀ v h', Ext h h' → Ir h' v (l.map (shC by_)) → (∀ d, Blk v = some d → h d = none) → ShOk by_ l → k (.tuple #[v, .int .i64 0]) h') : D 18 [t, .int .i64 by_] h k kp := by
  refine c _ _ _ _ _ ?_
  unfold F18
  have hl := q.len
  have hl' : l.length < 1099511627776 := hl
  unfold inI at hby
  rw [intK_int]
  intro q0 hq0
  have e0 : Ext h (h.set q0 (.cells [])) := Ext.new hq0
  have o0 : Own h (h.set q0 (.cells [])) (.slice (some ⟨q0, 0, none⟩) 0 0) (Z []) := ⟨e0, .inl ⟨⟨_, rfl⟩, rfl⟩, fun d hd => by rw [Blk_nil] at hd; cases hd⟩
  generalize h.set q0 (.cells []) = h1 at e0 o0 ⊢
  intro I hI
  have key : ∀ (n i : Nat) (out : Value) (h2 : H), l.length - i ≤ n → i ≤ l.length → Own h h2 out (Z ((l.take i).map (shC by_))) → ShOk by_ (l.take i) →
      I [t, .int .i64 by_, out, .int .i64 ((i : Nat) : Int)] h2 := by
    have fin : ∀ (i : Nat) (out : Value) (h2 : H), ¬ ((i : Int) < l.length) → i ≤ l.length → Own h h2 out (Z ((l.take i).map (shC by_))) → ShOk by_ (l.take i) → k (.tuple #[out, .int .i64 0]) h2 := by
      intro i out h2 hn hi o hs
      rw [List.take_of_length_le (by omega)] at o hs
      refine hk out h2 o.ext ⟨o.row, by rw [List.length_map]; exact hl, fun x hx => ?_⟩ o.blk hs
      obtain ⟨c, hc, rfl⟩ := List.mem_map.mp hx
      have := q.rng c hc
      unfold shC
      split
      · rename_i hneg
        have := hs c hc hneg
        unfold inI; omega
      · exact this
    intro n
    induction n with
    | zero =>
      intro i out h2 hn hi o hs
      refine hI _ _ _ _ _ ?_
      unfold round18_3
      rw [intK_int, intK_int, (q.ext o.ext).len_, cond_dec]
      refine ⟨fun hlt => by omega, fun hge => ?_⟩
      exact fin i out h2 hge hi o hs
    | succ n ih =>
      intro i out h2 hn hi o hs
      refine hI _ _ _ _ _ ?_
      unfold round18_3
      rw [intK_int, intK_int, (q.ext o.ext).len_, cond_dec]
      refine ⟨fun hlt => ?_, fun hge => fin i out h2 hge hi o hs⟩
      refine (q.ext o.ext).at_ (by omega) (by omega) fun a1 x hx hxi hr1 => ⟨x, hr1, ?_⟩
      rw [Int.toNat_natCast] at hx
      have hxi' := hxi
      unfold inI at hxi'
      have htk := (split_at hx).2.1
      -- the round's end, with a code put
      have put : ∀ y : Int, y = shC by_ x → (x < 0 → -1048576 ≤ x - by_ ∧ x - by_ < 0) → ∀ s' h3, Own h h3 s' (Z ((l.take i).map (shC by_)) ++ [.int .i64 y]) → I [t, .int .i64 by_, s', .int .i64 (((i + 1 : Nat)) : Int)] h3 := by
        intro y hy hok s' h3 o'
        refine ih (i + 1) s' h3 (by omega) (by omega) ?_ fun c hc hneg => ?_
        · rw [htk, List.map_append, ← Z_app, List.map_singleton, ← hy]
          exact o'
        · rw [htk] at hc
          rcases List.mem_append.mp hc with hc | hc
          · exact hs c hc hneg
          · simp only [List.mem_singleton] at hc
            subst hc; exact hok hneg
      refine (q.ext o.ext).at_ (by omega) (by omega) fun a2 x2 hx2 _ hr2 => ⟨x2, hr2, ?_⟩
      rw [Int.toNat_natCast, hx] at hx2
      cases hx2
      have hzl : (Z ((l.take i).map (shC by_))).length < 2 ^ 40 := by rw [Z_len, List.length_map, List.length_take]; omega
      rw [cond_dec]
      refine ⟨fun hpos => ?_, fun hneg => ?_⟩
      · refine (q.ext o.ext).at_ (by omega) (by omega) fun a3 x3 hx3 _ hr3 => ⟨x3, hr3, ?_⟩
        rw [Int.toNat_natCast, hx] at hx3
        cases hx3
        refine o.push hzl (by decide) rfl rfl (by decide) fun s' h3 o' _ _ => ?_
        unfold j18_3_4
        rw [intK_int, intK_int, i64_id (by omega) (by omega)]
        exact put x (by unfold shC; rw [if_neg (by omega)]) (fun h => by omega) s' h3 o'
      · have hn : x < 0 := by omega
        -- the last step: the flag tells whether a name is left
        have last : ∀ f : Bool, (f = false → x - by_ < 0 ∧ -1048576 ≤ x - by_) → ∀ y : Int, y = -1 - (x - by_) → inI y →
            j18_3_12 D I (fun x39 vs40 h38 => xs x39 (intK IntKind.i64 (nth vs40 1) (fun x42 => k (Value.tuple #[(nth vs40 0), (Value.int IntKind.i64 x42)]) h38)) (fun i41 => cond (Nat.beq i41 0) (k (Value.tuple #[(nth vs40 0), (Value.int IntKind.i64 (0 : Int))]) h38) (False)) (fun c => kp c h38)) t (.int .i64 by_) out (.int .i64 ((i : Nat) : Int)) (.int .i64 y) (.bool f) h2 := by
          intro f hf y hy hyi
          unfold j18_3_12
          rw [intK_int, intK_int, intK_int, boolW_bool, cond_split]
          refine ⟨fun _ => ?_, fun hff => ?_⟩
          · simp only [xs_r, nth0, nth1, intK_int]
            exact hbad h2 o.ext
          · obtain ⟨h1', h2'⟩ := hf hff
            rw [i64_id (n := -1 - y) (by omega) (by omega)]
            refine o.push hzl (by decide) rfl rfl (by decide) fun s' h3 o' _ _ => ?_
            unfold j18_3_4
            rw [intK_int, intK_int, i64_id (by omega) (by omega)]
            have hyy : -1 - y = x - by_ := by omega
            rw [hyy] at o'
            exact put _ (by unfold shC; rw [if_pos hn]) (fun _ => ⟨h2', h1'⟩) s' h3 o'
        have mid : ∀ f : Bool, (f = false → by_ < 1048576 ∧ (0 ≤ by_ → -1 - x < 1048576 - by_)) →
            j18_3_9 D I (fun x39 vs40 h38 => xs x39 (intK IntKind.i64 (nth vs40 1) (fun x42 => k (Value.tuple #[(nth vs40 0), (Value.int IntKind.i64 x42)]) h38)) (fun i41 => cond (Nat.beq i41 0) (k (Value.tuple #[(nth vs40 0), (Value.int IntKind.i64 (0 : Int))]) h38) (False)) (fun c => kp c h38)) t (.int .i64 by_) out (.int .i64 ((i : Nat) : Int)) (.int .i64 (-1 - x)) (.bool f) h2 := by
          intro f hf
          unfold j18_3_9
          rw [intK_int, intK_int, intK_int, boolW_bool, cond_split]
          refine ⟨fun _ => ?_, fun hff => ?_⟩
          · simp only [xs_r, nth0, nth1, intK_int]
            exact hbad h2 o.ext
          · obtain ⟨g1, g2⟩ := hf hff
            have hb1 : -9223372036854775808 ≤ (-1 - x) + by_ ∧ (-1 - x) + by_ ≤ 9223372036854775807 := by
              by_cases h0 : 0 ≤ by_
              · have := g2 h0; omega
              · omega
            rw [i64_id hb1.1 hb1.2, cond_not, cond_dec]
            refine ⟨fun hlt0 => last true (fun h => by cases h) _ (by omega) (by unfold inI; omega), fun hge0 => ?_⟩
            refine last _ (fun hf2 => ?_) _ (by omega) (by unfold inI; omega)
            rw [decide_eq_false_iff_not] at hf2
            omega
        rw [i64_id (n := -1 - x) (by omega) (by omega), cond_not, cond_dec]
        refine ⟨fun hbig => mid true (fun h => by cases h), fun hsm => ?_⟩
        rw [cond_dec]
        refine ⟨fun h0 => ?_, fun h0 => mid false fun _ => ⟨by omega, fun h => by omega⟩⟩
        rw [i64_id (n := 1048576 - by_) (by omega) (by omega)]
        refine mid _ fun hf => ?_
        rw [decide_eq_false_iff_not] at hf
        exact ⟨by omega, fun _ => by omega⟩
  exact key l.length 0 _ h1 (by omega) (by omega) (by simpa using o0) (fun c hc => by simp at hc)

/-! ### what moving keeps -/
theorem sh_neg {b c : Int} (h : c < 0) : shC b c = c - b := by unfold shC; rw [if_pos h]
theorem sh_pos {b c : Int} (h : ¬ c < 0) : shC b c = c := by unfold shC; rw [if_neg h]
theorem sh_mem {b c : Int} (hc : c < 0) : ∀ {met : List Int}, (∀ x ∈ met, x < 0) → (shC b c ∈ met.map (shC b) ↔ c ∈ met) := by
  intro met hm
  rw [List.mem_map]
  constructor
  · rintro ⟨x, hx, he⟩
    rw [sh_neg (hm x hx), sh_neg hc] at he
    have : x = c := by omega
    subst this; exact hx
  · intro h; exact ⟨c, h, rfl⟩
theorem sh_idx {b c : Int} (hc : c < 0) : ∀ {met : List Int}, (∀ x ∈ met, x < 0) → (met.map (shC b)).idxOf (shC b c) = met.idxOf c
  | [], _ => rfl
  | x :: met, hm => by
    rw [List.map_cons, List.idxOf_cons, List.idxOf_cons, sh_idx hc fun y hy => hm y (by simp [hy])]
    have hx := hm x (by simp)
    have : (shC b x == shC b c) = (x == c) := by
      rw [sh_neg hx, sh_neg hc, Bool.eq_iff_iff, beq_iff_eq, beq_iff_eq]; omega
    rw [this]
theorem sh_met {b : Int} : ∀ (t met : List Int), ShOk b t → (∀ x ∈ met, x < 0) → metGo (met.map (shC b)) (t.map (shC b)) = (metGo met t).map (shC b) ∧ canonGo (met.map (shC b)) (t.map (shC b)) = canonGo met t
  | [], met, _, _ => ⟨rfl, rfl⟩
  | c :: t, met, ho, hm => by
    have ho' : ShOk b t := fun x hx => ho x (by simp [hx])
    rw [List.map_cons]
    unfold metGo canonGo
    by_cases hc : c < 0
    · have hs : shC b c < 0 := by rw [sh_neg hc]; exact (ho c (by simp) hc).2
      rw [if_pos hs, if_pos hc, sh_idx hc hm]
      by_cases hin : c ∈ met
      · have hin' := (sh_mem (b := b) hc hm).mpr hin
        obtain ⟨h1, h2⟩ := sh_met t met ho' hm
        rw [if_neg (fun h => h.2 hin'), if_neg (fun h => h.2 hin), if_pos hin', if_pos hin]
        exact ⟨h1, by rw [h2]⟩
      · have hin' : shC b c ∉ met.map (shC b) := fun h => hin ((sh_mem hc hm).mp h)
        obtain ⟨h1, h2⟩ := sh_met t (met ++ [c]) ho' fun x hx => by
          rcases List.mem_append.mp hx with hx | hx
          · exact hm x hx
          · simp only [List.mem_singleton] at hx; subst hx; exact hc
        rw [List.map_append, List.map_singleton] at h1 h2
        rw [if_pos ⟨hs, hin'⟩, if_pos ⟨hc, hin⟩, if_neg hin', if_neg hin]
        exact ⟨h1, by rw [h2]⟩
    · obtain ⟨h1, h2⟩ := sh_met t met ho' hm
      rw [sh_pos hc, if_neg (fun h => hc h.1), if_neg (fun h => hc h.1), if_neg hc, if_neg hc]
      exact ⟨h1, by rw [h2]⟩
def shR (b : Int) (r : Ru) : Ru := (r.1.map (shC b), r.2.map (shC b))
theorem met_neg (t : List Int) : ∀ x ∈ metGo [] t, x < 0 := fun x hx => by
  rcases (mem_metGo t [] x).mp hx with h | h
  · cases h
  · exact h.2
theorem sh_vkey {b : Int} {r : Ru} (h1 : ShOk b r.1) (h2 : ShOk b r.2) : vkey (shR b r) = vkey r := by
  have a1 := sh_met r.1 [] h1 (by simp)
  have a2 := sh_met r.2 (metGo [] r.1) h2 (met_neg r.1)
  simp only [List.map_nil] at a1
  unfold vkey shR
  simp only [canonL]
  rw [a1.1, a1.2, a2.2]
theorem sh_scan {sg : Sg} {b : Int} {t : List Int} {n : Nat} (ho : ShOk b t) (hs : scan sg n t = 0) : scan sg n (t.map (shC b)) = 0 := by
  rw [← hs]
  refine scan_congr sg _ _ n (by simp) fun i x y hx hy => ?_
  rw [List.getElem?_map, hy] at hx
  simp only [Option.map_some, Option.some.injEq] at hx
  subst hx
  by_cases hc : y < 0
  · have h1 := ho y (List.mem_of_getElem? hy) hc
    have h2 := scan_codes sg t n hs y (List.mem_of_getElem? hy)
    rw [sh_neg hc]
    exact .inr ⟨h1.2, hc, h1.1, h2.1⟩
  · exact .inl (sh_pos hc)
theorem ruleE_mk {sig : List Sy} {r : Ru} (h1 : scan (S2 sig) 1 r.1 = 0) (h2 : scan (S2 sig) 1 r.2 = 0) (h3 : r.1.length ≤ 512) (h4 : r.2.length ≤ 512) (h5 : 0 ≤ r.1.headD 0) (h6 : ∀ v ∈ vars r.2, v ∈ vars r.1) : ruleE sig r = 0 := by
  rw [ruleE_rest h1 h2, if_neg (by omega), if_neg (by omega), if_pos]
  rw [List.all_eq_true]
  intro v hv
  exact decide_eq_true (h6 v hv)
theorem sh_rule {sig : List Sy} {b : Int} {r : Ru} (h : ruleE sig r = 0) (o1 : ShOk b r.1) (o2 : ShOk b r.2) : ruleE sig (shR b r) = 0 := by
  obtain ⟨h1, h2, h3, h4, h5, h6⟩ := ruleE_ok h
  refine ruleE_mk (sh_scan o1 h1) (sh_scan o2 h2) (by simpa [shR] using h3) (by simpa [shR] using h4) ?_ ?_
  · show 0 ≤ (r.1.map (shC b)).headD 0
    cases hr : r.1 with
    | nil => simp
    | cons c t =>
      rw [hr] at h5
      have h5 : 0 ≤ c := h5
      show 0 ≤ shC b c
      rw [sh_pos (by omega)]; exact h5
  · intro v hv
    obtain ⟨x, hx, hx0, rfl⟩ := mem_vars.mp hv
    obtain ⟨c, hc, rfl⟩ := List.mem_map.mp hx
    have hcn : c < 0 := by
      by_cases hcn : c < 0
      · exact hcn
      · rw [sh_pos hcn] at hx0; exact absurd hx0 hcn
    have hv2 : (-1 - c) ∈ vars r.2 := mem_vars.mpr ⟨c, hc, hcn, rfl⟩
    obtain ⟨d, hd, hdn, hde⟩ := mem_vars.mp (h6 _ hv2)
    have : d = c := by omega
    subst this
    exact mem_vars.mpr ⟨shC b d, List.mem_map_of_mem hd, hx0, rfl⟩
theorem right_mk {S : Sm} (h1 : plainE S.sig = 0) (h2 : S.rules.length ≤ 64) (h3 : ∀ r ∈ S.rules, ruleE S.sig r = 0) : rightS S = true := by
  unfold rightS chkSys
  rw [if_neg (by simpa using h1), if_neg (by omega), beq_iff_eq]
  have : ∀ (rs : List Ru) (i : Nat), (∀ r ∈ rs, ruleE S.sig r = 0) → (rulesE S.sig i rs).1 = 0 := by
    intro rs
    induction rs with
    | nil => intro i _; rfl
    | cons r rs ih =>
      intro i h
      unfold rulesE
      rw [if_neg (by simpa using h r (by simp))]
      exact ih (i + 1) fun x hx => h x (by simp [hx])
  exact this _ 0 h3
theorem same_mk {a b : Sm} (h1 : rightS a = true) (h2 : rightS b = true) (h3 : a.sig = b.sig) (h4 : (a.rules.map vkey).Perm (b.rules.map vkey)) : sameS a b = true := by
  have hl := h4.length_eq
  rw [List.length_map, List.length_map] at hl
  unfold sameS
  rw [h1, h2, decide_eq_true h3, decide_eq_true hl, List.isPerm_iff.mpr h4]; rfl
end Go.Proofs.YtnlhnlmnlfmojaaDoor.Am
