/-
  Packed: Lines that say nothing, and more blanks, change nothing: for every input of bulk at most 1048576. Conditions: none but the statement's own.
-/
import Derived.Test.YtkdneddcocggdaaGreatDoorLawSpell
set_option linter.unusedVariables false
set_option linter.unusedSimpArgs false
set_option linter.unnecessarySimpa false
namespace Go.Proofs.YtkdneddcocggdaaGreatDoor.spellNothing
open Go Go.Proofs Go.ChangeShapes Go.WideShapes Go.ChangeAt Go.RowKit Am
set_option maxRecDepth 100000
theorem contract (H:Type) (enc:TypeId × Value→H) (W:World) (base:Nat) (args:Array Value) (ds gs:List (DataW H)) (before:List MemPlace)
  (hval:∀ (j:Nat) t v,Tryz.f10.params[j]?=some t→args[j]?=some v→Value.okWide Tryz.prog W .any base t v)
  (hW:DataW.Whole enc Tryz.prog Tryz.f10.params.toList Rows.spellNothingSpec.vars false W args.toList ds gs before) (hbulk:Rows.uptoBulkAll (ds++gs)≤1048576) (hL:laidMet Tryz.prog Rows.spellNothingUptoRow.laid W) :
  Calls Tryz.prog 10 args W fun e W'=>∃ v,e=.returned v∧Rows.spellNothingSpec.post enc Tryz.prog Tryz.f10 false true false false W args v W':=by
 have hW':=hW
 obtain ⟨p,q,hA,hV,rfl,hfz,hnd⟩:=hW
 obtain ⟨rfl,rfl⟩:=trodVars_none hV
 rw [List.append_nil] at hbulk
 rw [Tryz.params10] at hA hval
 obtain ⟨v0,vs0,d0,ds0,p0,q0,hargs,rfl,rfl,h0,r0⟩:=trodAll_cons hA
 obtain ⟨v1,vs1,d1,ds1,p1,q1,rfl,rfl,rfl,h1,r1⟩:=trodAll_cons r0
 obtain ⟨rfl,rfl,rfl⟩:=trodAll_nil r1
 obtain rfl:args=#[v0,v1]:=by cases args; simp_all
 simp only [Rows.uptoBulkAll] at hbulk
 obtain ⟨s0,rfl,hd0,hp0,hz0⟩:=ChangeMaps.open_string Tryz.underlying9 (hval 0 9 v0 rfl rfl) h0
 subst hd0
 have hs0:s0.size<2 ^ 38:=by
  simp only [Rows.uptoBulk] at hbulk
  have hx0:s0.data.toList.length=s0.size:=rfl
  omega
 obtain ⟨s1,rfl,hd1,hp1,hz1⟩:=ChangeMaps.open_string Tryz.underlying9 (hval 1 9 v1 rfl rfl) h1
 subst hd1
 have hs1:s1.size<2 ^ 38:=by
  simp only [Rows.uptoBulk] at hbulk
  have hx1:s1.data.toList.length=s1.size:=rfl
  omega
 refine (xWb (args:=[.string s0,.string s1]) (of_decide_eq_true (by kernel_rfl)) (law10 hs0 hs1 (xKf hL) fun h' _=>rfl)).mono fun e W' he=>?_
 obtain ⟨rfl,hb⟩:=he
 exact ⟨_,rfl,post_true laidOut (by kernel_rfl) rfl Tryz.underlying4 rfl hW' rfl hb⟩
theorem laid_met (os:Os):laidMet Tryz.prog Rows.spellNothingUptoRow.laid (((qBo Rows.spellNothingUptoRow.laid os).forCall (fun _ _=>0) ⟨#[],#[.string ⟨#[]⟩,.string ⟨#[]⟩],[]⟩).memory) :=
 (LaidIn.of_run (l:=Rows.spellNothingUptoRow.laid) [0,1,3,4,5,6,7,lowS,lowS+1] 8 (by kernel_rfl) (by kernel_rfl) (by kernel_rfl) (by kernel_rfl)).met
theorem reads (os:Os) {H:Type} (enc:TypeId × Value→H):∃ places,DataW.whole enc Tryz.prog ((qBo Rows.spellNothingUptoRow.laid os).forCall (fun _ _=>0) ⟨#[],#[.string ⟨#[]⟩,.string ⟨#[]⟩],[]⟩).memory Tryz.f10.params.toList Rows.spellNothingSpec.vars false #[Value.string ⟨#[]⟩,.string ⟨#[]⟩].toList 8=some ([.lit (.string []),.lit (.string [])],[],places) :=
 ⟨[],by kernel_rfl⟩
set_option maxRecDepth 100000 in
theorem liftedUpto (os:Os) (started:os.Started) (H:Type) (enc:TypeId × Value→H) (F:Stop.Interp) :
  ReturnsInHanded {} Tryz.checked os 10 .any ((Rows.OpenSpec.upto Rows.spellNothingSpec).preRow enc Tryz.prog Tryz.f10 Rows.spellNothingUptoRow.domain false Rows.spellNothingUptoRow.laid) (((Rows.OpenSpec.upto Rows.spellNothingSpec).at F).post enc Tryz.prog Tryz.f10 false true false false):=by
 obtain ⟨places,hx⟩:=reads os enc
 refine returnsInHanded_of_row (C:=Tryz.checked) (s:=Rows.OpenSpec.upto Rows.spellNothingSpec) own started (by kernel_rfl) Tryz.func10
  (witness_row_at (enc:=enc) (C:=Tryz.checked) false (qBo Rows.spellNothingUptoRow.laid os) #[.string ⟨#[]⟩,.string ⟨#[]⟩] rfl (by kernel_rfl) (by kernel_rfl) (by kernel_rfl)
   (OpenSpec.preRow_of_cond 8 hx (by kernel_rfl) (fun k hk=>by cases hk; kernel_rfl) (by kernel_rfl) (laid_met os))) ?_
 intro W base args ds gs before hval hW _ hcond _ hL _ _
 exact contract H enc W base args ds gs before hval hW (by have:=hcond _ rfl; simpa [Rows.uptoSmall] using this) hL
theorem saidUpto:Rows.SpellNothingUptoSaid :=
 OpenClaim.holds_of_cond 10 Tryz.f10 rfl rfl rfl rfl rfl rfl rfl ⟨rfl,rfl,rfl,rfl,rfl⟩ rfl rfl rfl rfl rfl (by kernel_rfl) Tryz.func10 (by kernel_rfl)
  (of_decide_eq_true (by kernel_rfl)) (by unfold Func.isWrapper; first | (rw [if_pos (by decide +kernel)]; kernel_rfl) | (rw [if_neg (by decide +kernel)]; exact ⟨rfl,rfl⟩))
  (fun os started H enc _ F=>by rw [OpenClaim.pre_eq_preRow]; exact liftedUpto os started H enc F)
theorem plain (f:FuncId) (fn:Func) (hf:Tryz.pinned.checked.prog.funcNamed "lodestone/lodestonelaw22.SpellNothing"=some f) (hfn:Tryz.pinned.checked.prog.funcs[f]?=some fn) :
  true=Tryz.pinned.checked.prog.looks []∧∀ (j:Nat) t,fn.params[j]?=some t→Tryz.pinned.checked.prog.wantsStandIn t=false:=by
 obtain rfl:f=10:=Option.some.inj ((show Tryz.prog.funcNamed "lodestone/lodestonelaw22.SpellNothing"=some 10 by kernel_rfl).symm.trans hf) |>.symm
 obtain rfl:fn=Tryz.f10:=(Option.some.inj (Tryz.func10.symm.trans hfn)).symm
 refine ⟨by kernel_rfl,fun j t ht=>?_⟩
 have h2:Tryz.f10.params.all (fun t=>Tryz.prog.wantsStandIn t==false)=true:=by kernel_rfl
 have:=Array.all_eq_true'.mp h2 t (Array.mem_of_getElem? ht)
 exact eq_of_beq this
theorem cardUpto:Rows.SpellNothingUptoCardSaid :=
 Claim7.holds_tied_plain_at .later [] _ _ _ _ saidUpto (fun _ h=>by cases h) (by kernel_rfl) (fun _ h=>by cases h) spellNothingUpto_row_tie rfl ⟨rfl,rfl⟩ (by kernel_rfl) rfl plain (by kernel_rfl)
end Go.Proofs.YtkdneddcocggdaaGreatDoor.spellNothing
