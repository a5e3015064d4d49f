/-
  Packed: Every book is written as the document says: for every input of bulk at most 1048576. Conditions: none but the statement's own.
-/
import Derived.Test.YtkdneddcocggdaaGreatDoorLawSpell
set_option linter.unusedVariables false
set_option linter.unusedSimpArgs false
set_option linter.unnecessarySimpa false
namespace Go.Proofs.YtkdneddcocggdaaGreatDoor.spellPrints
open Go Go.Proofs Go.ChangeShapes Go.WideShapes Go.ChangeAt Go.RowKit Am
set_option maxRecDepth 100000
theorem contract (H:Type) (enc:TypeId × Value→H) (W:World) (base:Nat) (args:Array Value) (ds gs:List (DataW H)) (before:List MemPlace)
  (hval:∀ (j:Nat) t v,Tryz.f6.params[j]?=some t→args[j]?=some v→Value.okWide Tryz.prog W .any base t v)
  (hW:DataW.Whole enc Tryz.prog Tryz.f6.params.toList Rows.spellPrintsSpec.vars false W args.toList ds gs before) (hbulk:Rows.uptoBulkAll (ds++gs)≤1048576) (hL:laidMet Tryz.prog Rows.spellPrintsUptoRow.laid W) :
  Calls Tryz.prog 6 args W fun e W'=>∃ v,e=.returned v∧Rows.spellPrintsSpec.post enc Tryz.prog Tryz.f6 false true false false W args v W':=by
 have hW':=hW
 obtain ⟨p,q,hA,hV,rfl,hfz,hnd⟩:=hW
 obtain ⟨rfl,rfl⟩:=trodVars_none hV
 rw [List.append_nil] at hbulk
 rw [Tryz.params6] at hA hval
 obtain ⟨v0,vs0,d0,ds0,p0,q0,hargs,rfl,rfl,h0,r0⟩:=trodAll_cons hA
 obtain ⟨rfl,rfl,rfl⟩:=trodAll_nil r0
 obtain rfl:args=#[v0]:=by cases args; simp_all
 simp only [Rows.uptoBulkAll] at hbulk
 obtain ⟨fu0,hf0⟩:=h0
 obtain ⟨cs0,rfl,hz0⟩:=okWide_struct Tryz.underlying38 (hval 0 38 v0 rfl rfl)
 obtain ⟨B0,bk0,wl0⟩:=book_handed hf0 (by show Rows.uptoBulk d0≤1048576; omega)
 refine (xYq (args:=[.agg cs0]) (of_decide_eq_true (by kernel_rfl)) (law6 bk0 wl0 (xBs hL) fun h' _=>rfl)).mono fun e W' he=>?_
 obtain ⟨rfl,hb⟩:=he
 exact ⟨_,rfl,post_true laidOut (by kernel_rfl) rfl Tryz.underlying4 rfl hW' rfl hb⟩
theorem laid_met (os:Os):laidMet Tryz.prog Rows.spellPrintsUptoRow.laid (((qCu Rows.spellPrintsUptoRow.laid os).forCall (fun _ _=>0) ⟨#[],#[.agg #[.slice none 0 0,.slice none 0 0,.slice none 0 0,.slice none 0 0,.slice none 0 0,.slice none 0 0]],[]⟩).memory) :=
 (LaidIn.of_run (l:=Rows.spellPrintsUptoRow.laid) [0,1,3,4,5,6,7,lowS,lowS+1] 8 (by kernel_rfl) (by kernel_rfl) (by kernel_rfl) (by kernel_rfl)).met
theorem reads (os:Os) {H:Type} (enc:TypeId × Value→H):∃ places,DataW.whole enc Tryz.prog ((qCu Rows.spellPrintsUptoRow.laid os).forCall (fun _ _=>0) ⟨#[],#[.agg #[.slice none 0 0,.slice none 0 0,.slice none 0 0,.slice none 0 0,.slice none 0 0,.slice none 0 0]],[]⟩).memory Tryz.f6.params.toList Rows.spellPrintsSpec.vars false #[Value.agg #[.slice none 0 0,.slice none 0 0,.slice none 0 0,.slice none 0 0,.slice none 0 0,.slice none 0 0]].toList 8=some ([.agg [.nil,.nil,.nil,.nil,.nil,.nil]],[],places) :=
 ⟨[],by kernel_rfl⟩
set_option maxRecDepth 100000 in
theorem liftedUpto (os:Os) (started:os.Started) (H:Type) (enc:TypeId × Value→H) (F:Stop.Interp) :
  ReturnsInHanded {} Tryz.checked os 6 .any ((Rows.OpenSpec.upto Rows.spellPrintsSpec).preRow enc Tryz.prog Tryz.f6 Rows.spellPrintsUptoRow.domain false Rows.spellPrintsUptoRow.laid) (((Rows.OpenSpec.upto Rows.spellPrintsSpec).at F).post enc Tryz.prog Tryz.f6 false true false false):=by
 obtain ⟨places,hx⟩:=reads os enc
 refine returnsInHanded_of_row (C:=Tryz.checked) (s:=Rows.OpenSpec.upto Rows.spellPrintsSpec) own started (by kernel_rfl) Tryz.func6
  (witness_row_at (enc:=enc) (C:=Tryz.checked) false (qCu Rows.spellPrintsUptoRow.laid os) #[.agg #[.slice none 0 0,.slice none 0 0,.slice none 0 0,.slice none 0 0,.slice none 0 0,.slice none 0 0]] rfl (by kernel_rfl) (by kernel_rfl) (by kernel_rfl)
   (OpenSpec.preRow_of_cond 8 hx (by kernel_rfl) (fun k hk=>by cases hk; kernel_rfl) (by kernel_rfl) (laid_met os))) ?_
 intro W base args ds gs before hval hW _ hcond _ hL _ _
 exact contract H enc W base args ds gs before hval hW (by have:=hcond _ rfl; simpa [Rows.uptoSmall] using this) hL
theorem saidUpto:Rows.SpellPrintsUptoSaid :=
 OpenClaim.holds_of_cond 6 Tryz.f6 rfl rfl rfl rfl rfl rfl rfl ⟨rfl,rfl,rfl,rfl,rfl⟩ rfl rfl rfl rfl rfl (by kernel_rfl) Tryz.func6 (by kernel_rfl)
  (of_decide_eq_true (by kernel_rfl)) (by unfold Func.isWrapper; first | (rw [if_pos (by decide +kernel)]; kernel_rfl) | (rw [if_neg (by decide +kernel)]; exact ⟨rfl,rfl⟩))
  (fun os started H enc _ F=>by rw [OpenClaim.pre_eq_preRow]; exact liftedUpto os started H enc F)
theorem plain (f:FuncId) (fn:Func) (hf:Tryz.pinned.checked.prog.funcNamed "lodestone/lodestonelaw22.SpellPrints"=some f) (hfn:Tryz.pinned.checked.prog.funcs[f]?=some fn) :
  true=Tryz.pinned.checked.prog.looks []∧∀ (j:Nat) t,fn.params[j]?=some t→Tryz.pinned.checked.prog.wantsStandIn t=false:=by
 obtain rfl:f=6:=Option.some.inj ((show Tryz.prog.funcNamed "lodestone/lodestonelaw22.SpellPrints"=some 6 by kernel_rfl).symm.trans hf) |>.symm
 obtain rfl:fn=Tryz.f6:=(Option.some.inj (Tryz.func6.symm.trans hfn)).symm
 refine ⟨by kernel_rfl,fun j t ht=>?_⟩
 have h2:Tryz.f6.params.all (fun t=>Tryz.prog.wantsStandIn t==false)=true:=by kernel_rfl
 have:=Array.all_eq_true'.mp h2 t (Array.mem_of_getElem? ht)
 exact eq_of_beq this
theorem cardUpto:Rows.SpellPrintsUptoCardSaid :=
 Claim7.holds_tied_plain_at .later [] _ _ _ _ saidUpto (fun _ h=>by cases h) (by kernel_rfl) (fun _ h=>by cases h) spellPrintsUpto_row_tie rfl ⟨rfl,rfl⟩ (by kernel_rfl) rfl plain (by kernel_rfl)
end Go.Proofs.YtkdneddcocggdaaGreatDoor.spellPrints
