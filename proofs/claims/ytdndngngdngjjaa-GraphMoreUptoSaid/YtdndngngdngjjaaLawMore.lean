/-
  Packed: What one edge more brings together: for every input of bulk at most 1048576. Conditions: none but the statement's own.
-/
import Derived.Test.YtdndngngdngjjaaLawGrM
namespace Go.Proofs.Ytdndngngdngjjaa.graphMore
open Go Go.Proofs Go.ChangeShapes Go.WideShapes Go.ChangeAt Go.RowKit Am
set_option linter.unusedSimpArgs false
set_option linter.unusedVariables false

theorem contract (H : Type) (enc : TypeId × Value → H) (W : World) (base : Nat) (args : Array Value) (ds gs : List (DataW H)) (before : List MemPlace)
    (hval : ∀ (j : Nat) t v, Try.f8.params[j]? = some t → args[j]? = some v → Value.okWide Try.prog W .any base t v)
    (hW : DataW.Whole enc Try.prog Try.f8.params.toList Rows.graphMoreSpec.vars false W args.toList ds gs before) (hbulk : Rows.uptoBulkAll (ds ++ gs) ≤ 1048576) :
    Calls Try.prog 8 args W fun e W' => ∃ v, e = .returned v ∧ Rows.graphMoreSpec.post enc Try.prog Try.f8 false true false false W args v W' := by
  have hW' := hW
  obtain ⟨p, q, hA, hV, rfl, hfz, hnd⟩ := hW
  obtain ⟨rfl, rfl⟩ := trodVars_none hV
  rw [List.append_nil] at hbulk
  rw [Try.params8] at hA hval
  obtain ⟨v0, vs0, d0, ds0, p0, q0, hargs, rfl, rfl, h0, r0⟩ := trodAll_cons hA
  obtain ⟨v1, vs1, d1, ds1, p1, q1, rfl, rfl, rfl, h1, r1⟩ := trodAll_cons r0
  obtain ⟨v2, vs2, d2, ds2, p2, q2, rfl, rfl, rfl, h2, r2⟩ := trodAll_cons r1
  obtain ⟨rfl, rfl, rfl⟩ := trodAll_nil r2
  obtain rfl : args = #[v0, v1, v2] := by cases args; simp_all
  simp only [Rows.uptoBulkAll] at hbulk
  obtain ⟨g0, rw0, hl0, hs0⟩ := rw_handed Try.underlying22 Try.underlying26 Try.underlying3 (by kernel_rfl) (by kernel_rfl) (hval 0 22 v0 rfl rfl) h0 (by omega)
  obtain ⟨x1, rfl, hd1, -, hwf1⟩ := open_int Try.underlying3 (hval 1 3 v1 rfl rfl) h1
  simp only [Lit.wf, decide_eq_true_eq, Bool.and_eq_true] at hwf1
  have hm1 : IntKind.i64.min = -9223372036854775808 := by decide
  have hM1 : IntKind.i64.max = 9223372036854775807 := by decide
  obtain ⟨x2, rfl, hd2, -, hwf2⟩ := open_int Try.underlying3 (hval 2 3 v2 rfl rfl) h2
  simp only [Lit.wf, decide_eq_true_eq, Bool.and_eq_true] at hwf2
  have hm2 : IntKind.i64.min = -9223372036854775808 := by decide
  have hM2 : IntKind.i64.max = 9223372036854775807 := by decide
  refine (calls_true (args := [v0, .int .i64 x1, .int .i64 x2]) (law8 rw0 hl0 hs0 fun h' => rfl)).mono fun e W' he => ?_
  obtain ⟨rfl, hb⟩ := he
  exact ⟨_, rfl, post_true laidOut (by kernel_rfl) rfl Try.underlying4 rfl hW' rfl hb⟩

set_option maxRecDepth 100000 in
theorem liftedUpto (os : Os) (started : os.Started) (H : Type) (enc : TypeId × Value → H) (F : Stop.Interp) :
    ReturnsInHanded {} Try.checked os 8 .any ((Rows.OpenSpec.upto Rows.graphMoreSpec).pre6 enc Try.prog Try.f8 Rows.graphMoreUptoRow.domain false) (((Rows.OpenSpec.upto Rows.graphMoreSpec).at F).post enc Try.prog Try.f8 false true false false) := by
  refine returnsInHanded_of_cond (C := Try.checked) (s := Rows.OpenSpec.upto Rows.graphMoreSpec) (k := Rows.uptoSmall) rfl own started (by kernel_rfl) Try.func8
    (OpenSpec.witness (enc := enc) (C := Try.checked) (s := Rows.OpenSpec.upto Rows.graphMoreSpec) (k := Rows.uptoSmall) rfl false ⟨#[], #[.slice none 0 0, .int .i64 0, .int .i64 0], []⟩ 8 (by kernel_rfl) (by kernel_rfl) (by kernel_rfl)
      (x := ([.nil, .lit (.int .i64 0), .lit (.int .i64 0)], [], [])) (by kernel_rfl) rfl (by kernel_rfl)) ?_
  intro W base args ds gs before hval hW _ hk _
  exact contract H enc W base args ds gs before hval hW (by simpa [Rows.uptoSmall] using hk)

theorem saidUpto : Rows.GraphMoreUptoSaid :=
  OpenClaim.holds_of_cond 8 Try.f8 rfl rfl rfl rfl rfl rfl rfl ⟨rfl, rfl, rfl, rfl, rfl⟩ rfl rfl rfl rfl rfl (by kernel_rfl) Try.func8 (by kernel_rfl)
    (of_decide_eq_true (by kernel_rfl)) (by unfold Func.isWrapper; first | (rw [if_pos (by decide +kernel)]; kernel_rfl) | (rw [if_neg (by decide +kernel)]; exact ⟨rfl, rfl⟩))
    (fun os started H enc _ F => liftedUpto os started H enc F)
end Go.Proofs.Ytdndngngdngjjaa.graphMore
