/-
  Packed: What is shown of a term is read as that term, and what is read is shown: for every input of bulk at most 1048576. Conditions: none but the statement's own.
-/
import Derived.Test.YtkdneddcocggdaaGreatDoorLawSpell
set_option linter.unusedVariables false
set_option linter.unusedSimpArgs false
set_option linter.unnecessarySimpa false
namespace Go.Proofs.YtkdneddcocggdaaGreatDoor.spellTerms
open Go Go.Proofs Go.ChangeShapes Go.WideShapes Go.ChangeAt Go.RowKit Am
set_option linter.unusedSimpArgs false
set_option linter.unusedVariables false
set_option maxRecDepth 100000
theorem contract (H:Type) (enc:TypeId × Value→H) (W:World) (base:Nat) (args:Array Value) (ds gs:List (DataW H)) (before:List MemPlace)
    (hval:∀ (j:Nat) t v,Tryz.f7.params[j]?=some t→args[j]?=some v→Value.okWide Tryz.prog W .any base t v)
    (hW:DataW.Whole enc Tryz.prog Tryz.f7.params.toList Rows.spellTermsSpec.vars false W args.toList ds gs before) (hbulk:Rows.uptoBulkAll (ds++gs)≤1048576) (hL:laidMet Tryz.prog Rows.spellTermsUptoRow.laid W) :
    Calls Tryz.prog 7 args W fun e W'=>∃ v,e=.returned v∧Rows.spellTermsSpec.post enc Tryz.prog Tryz.f7 false true false false W args v W':=by
  have hW':=hW
  obtain ⟨p,q,hA,hV,rfl,hfz,hnd⟩:=hW
  obtain ⟨rfl,rfl⟩:=trodVars_none hV
  rw [List.append_nil] at hbulk
  rw [Tryz.params7] at hA hval
  obtain ⟨v0,vs0,d0,ds0,p0,q0,hargs,rfl,rfl,h0,r0⟩:=trodAll_cons hA
  obtain ⟨v1,vs1,d1,ds1,p1,q1,rfl,rfl,rfl,h1,r1⟩:=trodAll_cons r0
  obtain ⟨v2,vs2,d2,ds2,p2,q2,rfl,rfl,rfl,h2,r2⟩:=trodAll_cons r1
  obtain ⟨rfl,rfl,rfl⟩:=trodAll_nil r2
  obtain rfl:args=#[v0,v1,v2]:=by cases args; simp_all
  simp only [Rows.uptoBulkAll] at hbulk
  obtain ⟨fu0,hf0⟩:=h0
  obtain ⟨ba0,le0,ca0,rfl⟩:=okWide_slice Tryz.underlying22 (hval 0 22 v0 rfl rfl)
  obtain ⟨sig0,sr0,hl0⟩:=sr_handed hf0 (by show Rows.uptoBulk d0≤1048576; omega)
  obtain ⟨fu1,hf1⟩:=h1
  obtain ⟨ba1,le1,ca1,rfl⟩:=okWide_slice Tryz.underlying24 (hval 1 24 v1 rfl rfl)
  obtain ⟨l1,i1,hl1⟩:=ir_handed Tryz.underlying24 Tryz.underlying3 (by kernel_rfl) hf1 (by show Rows.uptoBulk d1≤1048576; omega)
  obtain ⟨s2,rfl,hd2,hp2,hz2⟩:=ChangeMaps.open_string Tryz.underlying9 (hval 2 9 v2 rfl rfl) h2
  subst hd2
  have hs2:s2.size<2 ^ 38:=by
    simp only [Rows.uptoBulk] at hbulk
    have hx2:s2.data.toList.length=s2.size:=rfl
    omega
  refine (calls_true (args:=[.slice ba0 le0 ca0,.slice ba1 le1 ca1,.string s2]) (of_decide_eq_true (by kernel_rfl)) (law7 sr0 i1 hl1 hs2 (tbl_laid hL) fun h' _=>rfl)).mono fun e W' he=>?_
  obtain ⟨rfl,hb⟩:=he
  exact ⟨_,rfl,post_true laidOut (by kernel_rfl) rfl Tryz.underlying4 rfl hW' rfl hb⟩
theorem laid_met (os:Os):laidMet Tryz.prog Rows.spellTermsUptoRow.laid (((laidWorldS Rows.spellTermsUptoRow.laid os).forCall (fun _ _=>0) ⟨#[],#[.slice none 0 0,.slice none 0 0,.string ⟨#[]⟩],[]⟩).memory) :=
  (LaidIn.of_run (l:=Rows.spellTermsUptoRow.laid) [0,1,3,4,5,6,7,lowS,lowS+1] 8 (by kernel_rfl) (by kernel_rfl) (by kernel_rfl) (by kernel_rfl)).met
theorem reads (os:Os) {H:Type} (enc:TypeId × Value→H):∃ places,DataW.whole enc Tryz.prog ((laidWorldS Rows.spellTermsUptoRow.laid os).forCall (fun _ _=>0) ⟨#[],#[.slice none 0 0,.slice none 0 0,.string ⟨#[]⟩],[]⟩).memory Tryz.f7.params.toList Rows.spellTermsSpec.vars false #[Value.slice none 0 0,.slice none 0 0,.string ⟨#[]⟩].toList 8=some ([.nil,.nil,.lit (.string [])],[],places) :=
  ⟨[],by kernel_rfl⟩
set_option maxRecDepth 100000 in
theorem liftedUpto (os:Os) (started:os.Started) (H:Type) (enc:TypeId × Value→H) (F:Stop.Interp) :
    ReturnsInHanded {} Tryz.checked os 7 .any ((Rows.OpenSpec.upto Rows.spellTermsSpec).preRow enc Tryz.prog Tryz.f7 Rows.spellTermsUptoRow.domain false Rows.spellTermsUptoRow.laid) (((Rows.OpenSpec.upto Rows.spellTermsSpec).at F).post enc Tryz.prog Tryz.f7 false true false false):=by
  obtain ⟨places,hx⟩:=reads os enc
  refine returnsInHanded_of_row (C:=Tryz.checked) (s:=Rows.OpenSpec.upto Rows.spellTermsSpec) own started (by kernel_rfl) Tryz.func7
    (witness_row_at (enc:=enc) (C:=Tryz.checked) false (laidWorldS Rows.spellTermsUptoRow.laid os) #[.slice none 0 0,.slice none 0 0,.string ⟨#[]⟩] rfl (by kernel_rfl) (by kernel_rfl) (by kernel_rfl)
      (OpenSpec.preRow_of_cond 8 hx (by kernel_rfl) (fun k hk=>by cases hk; kernel_rfl) (by kernel_rfl) (laid_met os))) ?_
  intro W base args ds gs before hval hW _ hcond _ hL _ _
  exact contract H enc W base args ds gs before hval hW (by have:=hcond _ rfl; simpa [Rows.uptoSmall] using this) hL
theorem saidUpto:Rows.SpellTermsUptoSaid :=
  OpenClaim.holds_of_cond 7 Tryz.f7 rfl rfl rfl rfl rfl rfl rfl ⟨rfl,rfl,rfl,rfl,rfl⟩ rfl rfl rfl rfl rfl (by kernel_rfl) Tryz.func7 (by kernel_rfl)
    (of_decide_eq_true (by kernel_rfl)) (by unfold Func.isWrapper; first | (rw [if_pos (by decide +kernel)]; kernel_rfl) | (rw [if_neg (by decide +kernel)]; exact ⟨rfl,rfl⟩))
    (fun os started H enc _ F=>by rw [OpenClaim.pre_eq_preRow]; exact liftedUpto os started H enc F)
theorem plain (f:FuncId) (fn:Func) (hf:Tryz.pinned.checked.prog.funcNamed "lodestone/lodestonelaw22.SpellTerms"=some f) (hfn:Tryz.pinned.checked.prog.funcs[f]?=some fn) :
    true=Tryz.pinned.checked.prog.looks []∧∀ (j:Nat) t,fn.params[j]?=some t→Tryz.pinned.checked.prog.wantsStandIn t=false:=by
  obtain rfl:f=7:=Option.some.inj ((show Tryz.prog.funcNamed "lodestone/lodestonelaw22.SpellTerms"=some 7 by kernel_rfl).symm.trans hf) |>.symm
  obtain rfl:fn=Tryz.f7:=(Option.some.inj (Tryz.func7.symm.trans hfn)).symm
  refine ⟨by kernel_rfl,fun j t ht=>?_⟩
  have h2:Tryz.f7.params.all (fun t=>Tryz.prog.wantsStandIn t==false)=true:=by kernel_rfl
  have:=Array.all_eq_true'.mp h2 t (Array.mem_of_getElem? ht)
  exact eq_of_beq this
theorem cardUpto:Rows.SpellTermsUptoCardSaid :=
  Claim7.holds_tied_plain_at .later [] _ _ _ _ saidUpto (fun _ h=>by cases h) (by kernel_rfl) (fun _ h=>by cases h) spellTermsUpto_row_tie rfl ⟨rfl,rfl⟩ (by kernel_rfl) rfl plain (by kernel_rfl)
end Go.Proofs.YtkdneddcocggdaaGreatDoor.spellTerms
