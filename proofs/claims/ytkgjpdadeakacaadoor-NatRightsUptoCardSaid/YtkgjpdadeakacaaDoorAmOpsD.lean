/-
  Each operation's reading holds of the model's run of it: conversions, cuts, rows made and grown, strings walked, assertions.
-/
import Derived.Test.YtkgjpdadeakacaaDoorAmOpsC
import Derived.Laws.BytesArg
import Derived.Laws.IdiomStrings
namespace Go.Proofs.YtkgjpdadeakacaaDoor.Am
open Go
set_option linter.unusedSimpArgs false
variable {P : Program} {h : H} {w : World}

theorem unW_sound {op : UnOp} {x : Value} {k : Value → Prop} (hk : unW op x k) : ∃ v, (Op.unary op x).run P w = .ok v w ∧ k v := by
  unfold unW at hk
  split at hk
  · obtain ⟨j, n, rfl, hk1⟩ := intW_inv hk
    exact ⟨_, by simp [Op.unary, Op.intArith], hk1⟩
  · obtain ⟨j, n, rfl, hk1⟩ := intW_inv hk
    exact ⟨_, by simp [Op.unary, Op.intBits], hk1⟩
  · obtain ⟨b, rfl, hk1⟩ := boolW_inv hk
    exact ⟨_, by simp [Op.unary], hk1⟩
  · exact hk.elim

theorem cv_spec {s d : TypeId} {c : Cv} (h : cvOf P s d = c) : match c with
    | .ints k => (∃ j, P.underlying s = some (.int j)) ∧ P.underlying d = some (.int k)
    | .same => P.underlying s = some .string ∧ P.underlying d = some .string
    | .rs => (∃ j, P.underlying s = some (.int j)) ∧ P.underlying d = some .string
    | .bs => ∃ e, P.underlying s = some (.slice e) ∧ P.underlying e = some (.int .u8) ∧ P.underlying d = some .string
    | .sb => ∃ e, P.underlying s = some .string ∧ P.underlying e = some (.int .u8) ∧ P.underlying d = some (.slice e)
    | .no => True := by
  unfold cvOf at h
  split at h
  · rename_i h1 h2; subst h; exact ⟨⟨_, h1⟩, h2⟩
  · rename_i h1 h2; subst h; exact ⟨h1, h2⟩
  · rename_i h1 h2; subst h; exact ⟨⟨_, h1⟩, h2⟩
  · rename_i e h1 h2
    split at h
    · rename_i h3; subst h; exact ⟨e, h1, h3, h2⟩
    · subst h; trivial
  · rename_i e h1 h2
    split at h
    · rename_i h3; subst h; exact ⟨e, h1, h3, h2⟩
    · subst h; trivial
  · subst h; trivial

theorem conv_sound (r : Rel h w) {s d : TypeId} {v : Value} {k : Kv} (hk : convW P s d v h k) : Good h w ((convert s d v).run P w) k := by
  unfold convW at hk
  split at hk
  · rename_i j hc
    obtain ⟨⟨_, h1⟩, h2⟩ := cv_spec hc
    obtain ⟨j2, n, rfl, hk⟩ := intW_inv hk
    have e : (convert s d (.int j2 n)).run P w = .ok (.int j (j.wrap n)) w := by simp [convert, run_und h1, run_und h2, Conv.intToInt]
    rw [e]; exact Good.pure r hk
  · rename_i hc
    obtain ⟨h1, h2⟩ := cv_spec hc
    obtain ⟨x, rfl, hk⟩ := strW_inv hk
    have e : (convert s d (.string x)).run P w = .ok (.string x) w := by simp [convert, run_und h1, run_und h2]
    rw [e]; exact Good.pure r hk
  · rename_i hc
    obtain ⟨⟨_, h1⟩, h2⟩ := cv_spec hc
    obtain ⟨j2, n, rfl, hk⟩ := intW_inv hk
    have e : (convert s d (.int j2 n)).run P w = .ok (.string (Utf8.encode n)) w := by simp [convert, run_und h1, run_und h2, Conv.intToString]
    rw [e]; exact Good.pure r hk
  · rename_i hc
    obtain ⟨el, h1, h3, h2⟩ := cv_spec hc
    unfold bsW at hk
    split at hk
    · rename_i l c
      rw [run_convert_bytes_string w s d el none l c h1 h3 h2]
      have e : (Conv.bytesToString (.slice none l c)).run P w = .ok (.string .empty) w := by simp [Conv.bytesToString]
      rw [e]; exact Good.pure r hk
    · rename_i a n c
      obtain ⟨ns, hv, hk⟩ := hk
      rw [run_convert_bytes_string w s d el (some a) n c h1 h3 h2, run_bytesToString w a n c ns (loadR_sound r hv), foldl_push_bytes]
      have e : (⟨ByteArray.empty.data ++ (ns.map fun n => UInt8.ofNat n.toNat).toArray⟩ : ByteArray) = strOf ns := by
        unfold strOf
        congr 1
        simp [ByteArray.empty, ByteArray.emptyWithCapacity]
        rfl
      rw [e]; exact Good.pure r hk
    · exact hk.elim
  · rename_i hc
    obtain ⟨el, h1, h3, h2⟩ := cv_spec hc
    obtain ⟨x, rfl, hk⟩ := strW_inv hk
    rw [run_bytes_of_string w s d el x h1 h2 h3]
    have hle : x.size ≤ grownCap w x.size 0 el := by unfold grownCap; simp [Question.cut]
    have hrow : (bytesRow x (grownCap w x.size 0 el)).toList = (x.data.toList.map fun y => Value.int .u8 y.toNat) ++ List.replicate (grownCap w x.size 0 el - x.size) (.int .u8 0) := by
      simp [bytesRow]
    have n := (New.alloc w.drew (.cells (bytesRow x (grownCap w x.size 0 el)) el ((bytesRow x (grownCap w x.size 0 el)).size, (bytesRow x (grownCap w x.size 0 el)).size + 1))).of_drew
    refine ⟨_, _, _, rfl, hk w.heap.size _ r.fresh hle, r.new n ⟨el, _, by rw [← hrow], ?_⟩, Frame.new r n⟩
    intro j hj
    rw [← hrow] at hj
    simp at hj ⊢
    omega
  · exact hk.elim

theorem optI_inv {v : Option Value} {k : Option Int → Prop} (hk : optI v k) : (v = none ∧ k none) ∨ ∃ j n, v = some (.int j n) ∧ k (some n) := by
  unfold optI at hk
  split at hk
  · exact .inr ⟨_, _, rfl, hk⟩
  · exact hk.elim
  · exact .inl ⟨rfl, hk⟩

theorem bound_run {v : Value} {j : IntKind} {n : Int} {y : Nat} {c : BoundsCode} (hv : v = .int j n) (h0 : 0 ≤ n) (h1 : n ≤ y) : (Instr.sliceBound v y c).run P w = .ok n.toNat w := by
  subst hv; simp [Instr.sliceBound, asIntOf, h0, h1]

theorem bounds_run {sl : Bool} {len cap : Nat} {lo hi mx : Option Value} {l hh m : Option Int}
    (e1 : (lo = none ∧ l = none) ∨ ∃ j n, lo = some (.int j n) ∧ l = some n) (e2 : (hi = none ∧ hh = none) ∨ ∃ j n, hi = some (.int j n) ∧ hh = some n)
    (e3 : (mx = none ∧ m = none) ∨ ∃ j n, mx = some (.int j n) ∧ m = some n)
    (h0 : 0 ≤ l.getD 0) (h1 : l.getD 0 ≤ hh.getD len) (h2 : hh.getD len ≤ m.getD cap) (h3 : m.getD cap ≤ (cap : Int)) (h4 : m.isSome → hh.isSome) :
    (Instr.sliceBounds sl len cap lo hi mx).run P w = .ok ((l.getD 0).toNat, (hh.getD len).toNat, (m.getD cap).toNat) w := by
  unfold Instr.sliceBounds
  rcases e3 with ⟨rfl, rfl⟩ | ⟨j3, n3, rfl, rfl⟩
  · simp only [Option.getD_none] at h2 h3 ⊢
    rcases e2 with ⟨rfl, rfl⟩ | ⟨j2, n2, rfl, rfl⟩
    · simp only [Option.getD_none] at h1 h2 ⊢
      rcases e1 with ⟨rfl, rfl⟩ | ⟨j1, n1, rfl, rfl⟩
      · simp
      · simp only [Option.getD_some] at h0 h1 ⊢
        simp [bound_run (P := P) (w := w) rfl h0 h1]
    · simp only [Option.getD_some] at h1 h2 ⊢
      have hb := fun c => bound_run (P := P) (w := w) (c := c) (v := .int j2 n2) rfl (by omega : (0 : Int) ≤ n2) h2
      rcases e1 with ⟨rfl, rfl⟩ | ⟨j1, n1, rfl, rfl⟩
      · simp [hb]
      · simp only [Option.getD_some] at h0 h1 ⊢
        have hb1 := fun c => bound_run (P := P) (w := w) (c := c) (v := .int j1 n1) (y := n2.toNat) rfl h0 (by omega)
        simp [hb, hb1]
  · obtain ⟨j2, n2, rfl, rfl⟩ : ∃ j n, hi = some (.int j n) ∧ hh = some n := by
      rcases e2 with ⟨rfl, rfl⟩ | e2
      · simp at h4
      · exact e2
    simp only [Option.getD_some] at h1 h2 h3 ⊢
    have hb3 := fun c => bound_run (P := P) (w := w) (c := c) (v := .int j3 n3) (y := cap) rfl (by omega : (0 : Int) ≤ n3) h3
    have hb := fun c => bound_run (P := P) (w := w) (c := c) (v := .int j2 n2) (y := n3.toNat) rfl (by omega : (0 : Int) ≤ n2) (by omega)
    rcases e1 with ⟨rfl, rfl⟩ | ⟨j1, n1, rfl, rfl⟩
    · simp [hb3, hb]
    · simp only [Option.getD_some] at h0 h1 ⊢
      have hb1 := fun c => bound_run (P := P) (w := w) (c := c) (v := .int j1 n1) (y := n2.toNat) rfl h0 (by omega)
      simp [hb3, hb, hb1]

theorem mkSlice_sound (r : Rel h w) {t el : TypeId} {n m : Int} {k : Kv} (he : elemOfSl P t = some el) (hz : zOk P el = true) {j j' : IntKind}
    (hk : mkSliceW h (bytesOf P el) (zeroL P el) n m k) : Good h w ((Instr.makeSlice t (.int j n) (.int j' m)).run P w) k := by
  obtain ⟨hn, hnm, hb, hm, hk⟩ := hk
  obtain ⟨z, h1, h2, h3, h4⟩ := zOk_spec hz
  obtain ⟨i, hi, hib⟩ := run_bytes (P := P) (w := w) h1
  have wn : IntKind.i64.wrap n = n := by
    simp [IntKind.wrap, IntKind.bits, IntKind.signed]; omega
  have wm : IntKind.i64.wrap m = m := by
    simp [IntKind.wrap, IntKind.bits, IntKind.signed]; omega
  have hrow : (Array.range (m.toNat * szOf P el)).map ((if m.toNat * szOf P el = 0 then (#[] : Array Value) else z.cells)[· % (if m.toNat * szOf P el = 0 then (#[] : Array Value) else z.cells).size]!) = ((List.replicate m.toNat (zeroL P el)).flatten).toArray := by
    by_cases h0 : m.toNat * szOf P el = 0
    · have : m.toNat = 0 := by
        rcases Nat.mul_eq_zero.mp h0 with h | h
        · exact h
        · omega
      simp [this]
    · simp only [h0, if_false]
      rw [h2, ← h3]
      exact zeroCells_eq z.cells m.toNat
  have e : (Instr.makeSlice t (.int j n) (.int j' m)).run P w = .ok (.slice (some ⟨w.heap.size, 0, none⟩) n.toNat m.toNat) (w.alloc (.cells ((List.replicate m.toNat (zeroL P el)).flatten).toArray el)) := by
    unfold Instr.makeSlice
    simp only [Sem.run_bind, run_und (slEl he), Result.andThen_ok, asInt, asIntOf, Sem.run_pure, hi, hib, wn, wm]
    rw [if_neg (by simp; omega)]
    simp only [Sem.run_bind, askRoom_run, Result.andThen_ok, run_size' h1]
    by_cases h0 : m.toNat * szOf P el = 0
    · simp only [h0, if_true] at hrow ⊢
      simp only [Sem.run_bind, Sem.run_pure, Result.andThen_ok, hrow, newRow, run_newObj_alloc]
    · simp only [h0, if_false] at hrow ⊢
      simp only [Sem.run_bind, Sem.run_pure, Result.andThen_ok, run_zero h1, hrow, newRow, run_newObj_alloc]
  rw [e]
  have nw := New.alloc w (.cells ((List.replicate m.toNat (zeroL P el)).flatten).toArray el)
  exact ⟨_, _, h.set w.heap.size (.cells _), rfl, hk _ r.fresh, r.new nw ⟨el, (0, 0), rfl, by simp⟩, Frame.new r nw⟩
end Go.Proofs.YtkgjpdadeakacaaDoor.Am
