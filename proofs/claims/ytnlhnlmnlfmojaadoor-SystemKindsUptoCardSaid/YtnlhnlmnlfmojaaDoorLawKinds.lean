/-
  Packed: The order of rules and the names of variables make no difference; a rule less does: for every input of bulk at most 1048576. Conditions: none but the statement's own.
-/
import Derived.Test.YtnlhnlmnlfmojaaDoorLawSysK
namespace Go.Proofs.YtnlhnlmnlfmojaaDoor.systemKinds
open Go Go.Proofs Go.ChangeShapes Go.WideShapes Go.ChangeAt Go.RowKit Am
set_option linter.unusedSimpArgs false
set_option linter.unusedVariables false
set_option maxRecDepth 100000

theorem contract (H : Type) (enc : TypeId × Value → H) (W : World) (base : Nat) (args : Array Value) (ds gs : List (DataW H)) (before : List MemPlace)
    (hval : ∀ (j : Nat) t v, Tryd.f5.params[j]? = some t → args[j]? = some v → Value.okWide Tryd.prog W .any base t v)
    (hW : DataW.Whole enc Tryd.prog Tryd.f5.params.toList Rows.systemKindsSpec.vars false W args.toList ds gs before) (hbulk : Rows.uptoBulkAll (ds ++ gs) ≤ 1048576) (hL : laidMet Tryd.prog Rows.systemKindsUptoRow.laid W) :
    Calls Tryd.prog 5 args W fun e W' => ∃ v, e = .returned v ∧ Rows.systemKindsSpec.post enc Tryd.prog Tryd.f5 false true false false W args v W' := by
  have hW' := hW
  obtain ⟨p, q, hA, hV, rfl, hfz, hnd⟩ := hW
  obtain ⟨rfl, rfl⟩ := trodVars_none hV
  rw [List.append_nil] at hbulk
  rw [Tryd.params5] at hA hval
  obtain ⟨v0, vs0, d0, ds0, p0, q0, hargs, rfl, rfl, h0, r0⟩ := trodAll_cons hA
  obtain ⟨v1, vs1, d1, ds1, p1, q1, rfl, rfl, rfl, h1, r1⟩ := trodAll_cons r0
  obtain ⟨v2, vs2, d2, ds2, p2, q2, rfl, rfl, rfl, h2, r2⟩ := trodAll_cons r1
  obtain ⟨rfl, rfl, rfl⟩ := trodAll_nil r2
  obtain rfl : args = #[v0, v1, v2] := by cases args; simp_all
  simp only [Rows.uptoBulkAll] at hbulk
  obtain ⟨S0, ss0, hls0, hlr0⟩ := ss_handed (hval 0 25 v0 rfl rfl) h0 (by omega)
  obtain ⟨fu1, hf1⟩ := h1
  obtain ⟨ba1, le1, ca1, rfl⟩ := okWide_slice Tryd.underlying30 (hval 1 30 v1 rfl rfl)
  obtain ⟨l1, i1, hl1⟩ := ir_handed Tryd.underlying30 Tryd.underlying3 (by kernel_rfl) hf1 (by show Rows.uptoBulk d1 ≤ 1048576; omega)
  obtain ⟨x2, rfl, hd2, -, hwf2⟩ := open_int Tryd.underlying3 (hval 2 3 v2 rfl rfl) h2
  simp only [Lit.wf, decide_eq_true_eq, Bool.and_eq_true] at hwf2
  have hm2 : IntKind.i64.min = -9223372036854775808 := by decide
  have hM2 : IntKind.i64.max = 9223372036854775807 := by decide
  refine (calls_true (args := [v0, .slice ba1 le1 ca1, .int .i64 x2]) (law5 ss0 i1 (by unfold inI; omega) (tabs_laid hL laid_data.1 laid_data.2) fun h' _ => rfl)).mono fun e W' he => ?_
  obtain ⟨rfl, hb⟩ := he
  exact ⟨_, rfl, post_true laidOut (by kernel_rfl) rfl Tryd.underlying4 rfl hW' rfl hb⟩

theorem laid_met (os : Os) : laidMet Tryd.prog Rows.systemKindsUptoRow.laid (((laidWorld Tryd.prog Rows.systemKindsUptoRow.laid os).forCall (fun _ _ => 0) ⟨#[], #[.agg #[.slice none 0 0, .slice none 0 0], .slice none 0 0, .int .i64 0], []⟩).memory) :=
  (LaidIn.of_run (l := Rows.systemKindsUptoRow.laid) [0, 1] 8 (by kernel_rfl) (by kernel_rfl) (by kernel_rfl) (by kernel_rfl)).met
theorem reads (os : Os) {H : Type} (enc : TypeId × Value → H) : ∃ places, DataW.whole enc Tryd.prog ((laidWorld Tryd.prog Rows.systemKindsUptoRow.laid os).forCall (fun _ _ => 0) ⟨#[], #[.agg #[.slice none 0 0, .slice none 0 0], .slice none 0 0, .int .i64 0], []⟩).memory Tryd.f5.params.toList Rows.systemKindsSpec.vars false #[Value.agg #[.slice none 0 0, .slice none 0 0], .slice none 0 0, .int .i64 0].toList 8 = some ([.agg [.nil, .nil], .nil, .lit (.int .i64 0)], [], places) :=
  ⟨[], by kernel_rfl⟩

set_option maxRecDepth 100000 in
theorem liftedUpto (os : Os) (started : os.Started) (H : Type) (enc : TypeId × Value → H) (F : Stop.Interp) :
    ReturnsInHanded {} Tryd.checked os 5 .any ((Rows.OpenSpec.upto Rows.systemKindsSpec).preRow enc Tryd.prog Tryd.f5 Rows.systemKindsUptoRow.domain false Rows.systemKindsUptoRow.laid) (((Rows.OpenSpec.upto Rows.systemKindsSpec).at F).post enc Tryd.prog Tryd.f5 false true false false) := by
  obtain ⟨places, hx⟩ := reads os enc
  refine returnsInHanded_of_row (C := Tryd.checked) (s := Rows.OpenSpec.upto Rows.systemKindsSpec) own started (by kernel_rfl) Tryd.func5
    (witness_row_at (enc := enc) (C := Tryd.checked) false (laidWorld Tryd.prog Rows.systemKindsUptoRow.laid os) #[.agg #[.slice none 0 0, .slice none 0 0], .slice none 0 0, .int .i64 0] rfl (by kernel_rfl) (by kernel_rfl) (by kernel_rfl)
      (OpenSpec.preRow_of_cond 8 hx (by kernel_rfl) (fun k hk => by cases hk; kernel_rfl) (by kernel_rfl) (laid_met os))) ?_
  intro W base args ds gs before hval hW _ hcond _ hL _ _
  exact contract H enc W base args ds gs before hval hW (by have := hcond _ rfl; simpa [Rows.uptoSmall] using this) hL

theorem saidUpto : Rows.SystemKindsUptoSaid :=
  OpenClaim.holds_of_cond 5 Tryd.f5 rfl rfl rfl rfl rfl rfl rfl ⟨rfl, rfl, rfl, rfl, rfl⟩ rfl rfl rfl rfl rfl (by kernel_rfl) Tryd.func5 (by kernel_rfl)
    (of_decide_eq_true (by kernel_rfl)) (by unfold Func.isWrapper; first | (rw [if_pos (by decide +kernel)]; kernel_rfl) | (rw [if_neg (by decide +kernel)]; exact ⟨rfl, rfl⟩))
    (fun os started H enc _ F => by rw [OpenClaim.pre_eq_preRow]; exact liftedUpto os started H enc F)

theorem plain (f : FuncId) (fn : Func) (hf : Tryd.pinned.checked.prog.funcNamed "lodestone/lodestonelaw07.SystemKinds" = some f) (hfn : Tryd.pinned.checked.prog.funcs[f]? = some fn) :
    true = Tryd.pinned.checked.prog.looks [] ∧ ∀ (j : Nat) t, fn.params[j]? = some t → Tryd.pinned.checked.prog.wantsStandIn t = false := by
  obtain rfl : f = 5 := Option.some.inj ((show Tryd.prog.funcNamed "lodestone/lodestonelaw07.SystemKinds" = some 5 by kernel_rfl).symm.trans hf) |>.symm
  obtain rfl : fn = Tryd.f5 := (Option.some.inj (Tryd.func5.symm.trans hfn)).symm
  refine ⟨by kernel_rfl, fun j t ht => ?_⟩
  have h2 : Tryd.f5.params.all (fun t => Tryd.prog.wantsStandIn t == false) = true := by kernel_rfl
  have := Array.all_eq_true'.mp h2 t (Array.mem_of_getElem? ht)
  exact eq_of_beq this

theorem cardUpto : Rows.SystemKindsUptoCardSaid :=
  Claim7.holds_tied_plain_at .later [] _ _ _ _ saidUpto (fun _ h => by cases h) (by kernel_rfl) (fun _ h => by cases h) systemKindsUpto_row_tie rfl ⟨rfl, rfl⟩ (by kernel_rfl) rfl plain (by kernel_rfl)
end Go.Proofs.YtnlhnlmnlfmojaaDoor.systemKinds
