/-
  Packed: The laws on spelling: the library's tables as they lie, and all contracts of the model's calls. (Printed by wip/tools/wire.py where contracts are joined.)
-/
import Derived.Test.YtkdneddcocggdaaGreatDoorPkJ
import Derived.Stop.LaidErr
import Derived.Lib.LaidU8
set_option linter.unusedVariables false
set_option linter.unusedSimpArgs false
set_option linter.unnecessarySimpa false
namespace Go.Proofs.YtkdneddcocggdaaGreatDoor.Am
open Go Go.Proofs Go.RowKit Go.Lib Sys Sp
set_option linter.unusedVariables false
set_option linter.unusedSimpArgs false
set_option maxRecDepth 100000
theorem ro_of {W:World} {b:Nat} {v:Value} (hv:W.cell? ⟨b,0,none⟩=some v):∃ l,handed W b=some (.ro l)∧∀ j u,W.cell? ⟨b,j,none⟩=some u→l[j]?=some u:=by
  unfold World.cell? at hv
  split at hv
  · rename_i c t fz hb
    simp only at hb
    refine ⟨c.toList,by simp only [handed,hb],fun j u hu=>?_⟩
    unfold World.cell? at hu
    simp only [hb] at hu
    simpa using hu
  · cases hv
theorem ro_var {W:World} {n:String} {g:Nat} {cs:Array Value} (hg:Tryz.prog.globalNamed n=some g) (hv:W.var? Tryz.prog n=some cs):handed W g=some (.ro cs.toList):=by
  unfold World.var? at hv
  rw [hg,Option.bind_some] at hv
  cases hb:W.heap[g]? with
  | none=>rw [hb] at hv; cases hv
  | some o =>
    rw [hb] at hv
    cases o <;> first | (cases hv; done) | skip
    rename_i c t fz
    have:c=cs:=by simpa using hv
    subst this
    simp only [handed,hb]
theorem utf_handed {W:World} (h:Utf8Tabs 0 1 W):∃ l3 l4,handed W 0=some (.ro l3)∧handed W 1=some (.ro l4)∧(∀ c,c<256→l3[c]?=some (.int .u8 (firstT c))) ∧
    ∀ i,i<16→l4[2*i]?=some (.int .u8 (accLo i))∧l4[2*i+1]?=some (.int .u8 (accHi i)):=by
  obtain ⟨h3,h4⟩:=h
  obtain ⟨l3,a1,a2⟩:=ro_of (h3 0 (by omega))
  obtain ⟨l4,b1,b2⟩:=ro_of (h4 0 (by omega)).1
  exact ⟨l3,l4,a1,b1,fun c hc=>a2 c _ (h3 c hc),fun i hi=>⟨b2 _ _ (h4 i hi).1,b2 _ _ (h4 i hi).2⟩⟩
theorem utf_reads {W:World} (h3:VarReads Tryz.prog W "unicode/utf8.first" firstData) (h4:VarReads Tryz.prog W "unicode/utf8.acceptRanges" acceptData):Utf8Tabs 0 1 W:=by
  have L:=Tryz.laysValid
  have c5:Tryz.prog.cellsOf 5=1:=by kernel_rfl
  have c2:Tryz.prog.cellsOf 119=2:=by kernel_rfl
  have c256:Tryz.prog.cellsOf 117=256:=by kernel_rfl
  refine ⟨fun c hc=>?_,fun i hi=>?_⟩
  · obtain ⟨g, t, cs, fuel, p, hg, hty, hvar, hd⟩ := h3
    obtain rfl:g=0:=Option.some.inj (hg.symm.trans (by kernel_rfl))
    obtain rfl:t=117:=Option.some.inj (hty.symm.trans (by kernel_rfl))
    have hcs:=cells_of_tab L.t119 L.t5 c5 c256 hd
    rw [World.var?_cell hg hvar c,← Array.getElem?_toList,hcs]
    simp [firstTab,hc]
  · obtain ⟨g, t, cs, fuel, p, hg, hty, hvar, hd⟩ := h4
    obtain rfl:g=1:=Option.some.inj (hg.symm.trans (by kernel_rfl))
    obtain rfl:t=120:=Option.some.inj (hty.symm.trans (by kernel_rfl))
    obtain ⟨fuel',d,q,hdi,he⟩:=array_elem L.t139 hd i hi
    simp only [List.getElem?_map,List.getElem?_range hi,Option.map_some,Option.some.injEq] at hdi
    subst hdi
    change DataW.trod _ _ _ _ _ _ _ 119 ((cs.toList.drop (i*Tryz.prog.cellsOf 119)).take (Tryz.prog.cellsOf 119))=_ at he
    rw [c2] at he
    have hcs:=ints_of_struct L.t138 (fun j f hj=>by
      match j,hj with
      | 0,hj=>simp at hj; subst hj; exact ⟨L.t5,rfl,c5⟩
      | 1,hj=>simp at hj; subst hj; exact ⟨L.t5,rfl,c5⟩
      | j+2,hj=>simp at hj) c2 he
    have e0:=congrArg (·[0]?) hcs
    have e1:=congrArg (·[1]?) hcs
    simp only [List.getElem?_take,List.getElem?_drop] at e0 e1
    constructor
    · rw [World.var?_cell hg hvar (2 * i), ← Array.getElem?_toList]
      simpa [Nat.mul_comm] using e0
    · rw [World.var?_cell hg hvar (2 * i + 1), ← Array.getElem?_toList]
      simpa [Nat.mul_comm] using e1
theorem pow_reads {W:World} (h:VarReads Tryz.prog W "internal/strconv.uint64pow10" (.agg (Lib.pow10Tab.map fun z=>.lit (.int .u64 z)))):handed W 3=some (.ro (Lib.pow10Tab.map fun z=>Value.int .u64 z)):=by
  obtain ⟨g,t,cs,fuel,p,hg,hty,hvar,hd⟩:=h
  obtain rfl:g=3:=Option.some.inj (hg.symm.trans (by kernel_rfl))
  obtain rfl:t=223:=Option.some.inj (hty.symm.trans (by kernel_rfl))
  have hcs:=cells_of_tab (P:=Tryz.prog) Tryz.underlying223 Tryz.underlying166 (by kernel_rfl) (by kernel_rfl) hd
  rw [ro_var hg hvar,hcs]
theorem err_reads {W:World} {n:String} {g:Nat} {text:List UInt8} {r:List (String × DataW Unit)} (h:laidMet Tryz.prog ((n,.iface "*errors.errorString" (.ptr (.agg [.lit (.string text)])))::r) W) (hg:Tryz.prog.globalNamed n=some g) (ht:(Tryz.prog.globals[g]?).map (·.type)=some 133) :
    ∃ u v,handed W g=some (.ro [.iface u v]):=by
  have hrow:∀ u,Tryz.prog.typeName? 3 u=some "*errors.errorString"→u=231:=fun u h =>
    typeName_ptr_named (nm := "errors.errorString") (by rw [show "*" ++ "errors.errorString" = "*errors.errorString" by decide]; kernel_rfl) (by kernel_rfl) (by decide) u (by rw [show "*" ++ "errors.errorString" = "*errors.errorString" by decide]; exact h)
  obtain ⟨a,s,hv,_⟩:=laid_sentinel h hg ht Tryz.underlying133 hrow Tryz.underlying231 Tryz.underlying233 rfl rfl Tryz.underlying9 (by kernel_rfl) (by kernel_rfl)
  exact ⟨_,_,ro_var hg hv⟩
abbrev spellLaid:List (String × DataW Unit):=[("math/bits.deBruijn32tab",Rows.laid_math_bits_deBruijn32tab),("math/bits.deBruijn64tab",Rows.laid_math_bits_deBruijn64tab),("internal/strconv.uint64pow10",Rows.laid_internal_strconv_uint64pow10),("unicode/utf8.acceptRanges",Rows.laid_unicode_utf8_acceptRanges),("strconv.ErrRange",Rows.laid_strconv_ErrRange),("strconv.ErrSyntax",Rows.laid_strconv_ErrSyntax),("unicode/utf8.first",Rows.laid_unicode_utf8_first)]
theorem tbl_laid {W:World} (hL:laidMet Tryz.prog spellLaid W):Tbl (handed W):=by
  have e1:firstData=Rows.laid_unicode_utf8_first:=by kernel_rfl
  have e2:acceptData=Rows.laid_unicode_utf8_acceptRanges:=by kernel_rfl
  have e3:(.agg (Lib.pow10Tab.map fun z=>.lit (.int .u64 z)):DataW Unit)=Rows.laid_internal_strconv_uint64pow10:=by kernel_rfl
  refine ⟨utf_handed (utf_reads (Lib.laidMet.reads hL (by rw [e1]; simp)) (Lib.laidMet.reads hL (by rw [e2]; simp))),pow_reads (Lib.laidMet.reads hL (by rw [e3]; simp)),?_,?_⟩
  · exact err_reads hL.tail.tail.tail.tail.tail (by kernel_rfl) (by kernel_rfl)
  · exact err_reads hL.tail.tail.tail.tail (by kernel_rfl) (by kernel_rfl)
noncomputable def lowS:Nat:=(World.holding Tryz.prog default ⟨#[],#[],[]⟩).heap.size
noncomputable def laidWorldS (l:List (String × DataW Unit)) (os:Os):World :=
  let w0:=World.holding Tryz.prog os ⟨#[.cells #[.string ⟨#[118,97,108,117,101,32,111,117,116,32,111,102,32,114,97,110,103,101]⟩] 233,.cells #[.string ⟨#[105,110,118,97,108,105,100,32,115,121,110,116,97,120]⟩] 233],#[],[]⟩
  { w0 with heap:=((layAll Tryz.prog w0.heap l).modify 5 fun
      | .cells _ t frozen=>.cells #[.iface 231 (.pointer (some ⟨lowS,0,none⟩))] t frozen
      | o=>o).modify 4 fun
      | .cells _ t frozen=>.cells #[.iface 231 (.pointer (some ⟨lowS+1,0,none⟩))] t frozen
      | o=>o }
abbrev DD:Orc:=CS Tryz.prog
abbrev EE:Dorc:=DS Tryz.prog
theorem k1:SpecRightN DD 130:=spec130 cl130
theorem k2:SpecRightN DD 133:=spec133 cl133
theorem k3:SpecTrim DD 131:=spec131 cl131
theorem k4:SpecTrim DD 134:=spec134 cl134
theorem k5:SpecOf DD 118:=spec118 cl118 k4
theorem k6:SpecText DD 108:=spec108 cl108 k2 k4
theorem k7:SpecSet DD 137:=spec137 cl137
theorem k8:SpecHas DD 156:=spec156 cl156
theorem k9:SpecTrimLA DD 138:=spec138 cl138 k8
theorem k10:SpecTrimRA DD 171:=spec171 cl171 k8
theorem k11:SpecTrimBoth DD 154:=spec154 cl154 k7 k10 k9
theorem k12:SpecParse DD 127:=spec127 cl127 k11
theorem k14:SpecReverse DD 132:=spec132 cl132
theorem k15:SpecTrimLB DD 136:=spec136 cl136
theorem k16:SpecTrimLeft0 DD 112:=spec112 cl112 k15
theorem k17:SpecText DD 102:=spec102 cl102 k1 k3 k14 k16
theorem k18:SpecValid DD 29 Tbl:=spec29
theorem k19:SpecPred letter DD 109:=spec109 cl109
theorem k20:SpecName DD 70 Tbl:=spec70 cl70 k19 k18
theorem k21:SpecPred letter DD 104:=spec104 cl104
theorem k22:SpecPred more DD 105:=spec105 cl105 k21
theorem k23:SpecName DD 61 Tbl:=spec61 cl61 cl103 k21 k22
theorem k24:SpecAny DD 71:=spec71 cl71 cl110
theorem k25:SpecSig DD 27 Tbl:=spec27 env_stay cl27 k20 k24 cl72
theorem k26:SpecSig DD 31 Tbl:=spec31 env_stay cl31 k23 cl75
theorem k27:SpecGrown DD:=spec115 cl115 cl142 cl205 cl204
theorem k28:SpecCheck DD 34 Tbl:=spec34 env_stay cl34 cl80 k25 k27
theorem k29:SpecTerm DD 69:=spec69 cl69
theorem k30:SpecCheck DD 22 Tbl:=spec22 env_stay cl22 k26 k29
theorem k31:SpecCatch EE 25:=spec25 cl25 cl26
theorem k32:SpecCatch EE 52:=spec52 cl52 cl26
theorem k33:SpecCatch2 EE 40:=spec40 cl40 cl26
theorem k34:SpecPred letter DD 140:=spec140 cl140
theorem k35:SpecPred more DD 141:=spec141 cl141 k34
theorem k36:SpecCheckB DD 116:=spec116
theorem k37:SpecStrB DD 37:=spec37
theorem k38:SpecItoa DD 82 Tbl:=spec82
theorem k39:SpecSmall DD 158:=spec158
theorem k40:SpecDigs DD 159 Tbl:=spec159
theorem k41:SpecFmt DD 160:=spec160
theorem k42:SpecCount DD 39:=spec39
theorem k43:SpecIndex1 DD 86:=spec86
theorem k44:SpecClone DD 180:=spec180
theorem k45:SpecJoin DD 100:=spec100
theorem k46:SpecFields DD 42 43 (fun r=>decide ((r:Int)=32)):=spec42
theorem k47:SpecPU DD 150:=spec150 cl150 cl164
theorem k48:SpecErr DD 151 Tbl:=spec151 cl151 cl166 cl167 k44
theorem k49:SpecPUx DD 123 Tbl:=spec123 cl123 k47 k48
theorem k50:SpecFU DD 152 Tbl:=spec152 cl152 k39 k40 k41
theorem k51:SpecFU DD 124 Tbl:=spec124 cl124 k50
theorem k52:SpecNum DD 90 Tbl:=spec90 cl90 cl28 k49 k51
theorem k53:SpecTL DD 112:=trimLeft_digits cl112 k7 k9
theorem k54:SpecFront DD 113:=spec113 cl113 k34 k35 cl111 cl135
theorem k55:SpecSym DD 89:=spec89 cl89 cl122 cl110
theorem k56:SpecSkip DD 114:=spec114 cl114 cl28 cl111 cl135
theorem k57:∀ n,SpecRT DD 74 Tbl n:=term_read cl74 cl28 cl111 cl135 k53 k52 k54 k55 k56
theorem k58:SpecRd DD 30 Tbl:=spec30 cl30 cl28 k57
theorem k59:SpecTermR DD 12 Tbl:=spec12 cl12 k25 cl28 k18 k58 k31
theorem k60:SpecWS DD 81:=spec81 cl81 k36
theorem k61:∀ n,SpecWr DD 35 Tbl n:=term_write cl35 k60 k38
theorem k62:SpecShow DD 15 Tbl:=spec15 cl15 k28 k61 cl36 k37
theorem k63:SpecCnt DD 88:=spec88 cl88 cl28
theorem k64:SpecKind DD 93:=spec93 cl93 cl126
theorem k65:SpecKnown DD 92:=spec92 cl92 cl28 k55 cl125 cl153 cl99
theorem k66:SpecRul DD 91 Tbl:=spec91 cl91 k63 k58
theorem k67:SpecLast DD 94:=spec94 cl94 cl28
theorem k68:Hyp DD:=⟨k63,cl28,k66,k58,k52,k65,k55,k64,k67,k25,cl53,cl99⟩
theorem k69:SpecMono DD 95 Tbl:=spec95 k68 cl95 k12
theorem k70:SpecLine DD 44 Tbl:=spec44 k68 cl44 k69
theorem k71:SpecParseB DD 17 Tbl:=spec17 cl17 cl41 cl87 cl120 rn17 k70 k46 k43 k42 k18 k33
theorem k72:SpecWords DD 54:=spec54 cl54 k45 k60
theorem k73:SpecNumP DD 55 Tbl:=spec55 cl55 cl28 k38
theorem k74:SpecNameP DD 57:=spec57 cl57 cl28
theorem k75:SpecTm DD 101 Tbl:=spec101 cl101 cl28 k28 k61 k37
theorem k76:SpecsP DD:=⟨k72,k73,k74,k75,cl28⟩
theorem k77:SpecRulesP DD 56:=spec56 cl56 k76
theorem k78:SpecNodeP DD 58:=spec58 cl58 k17 k76
theorem k79:SpecCmdP DD 59:=spec59 cl59 k76
theorem k80:SpecPrint DD 20 Tbl:=spec20 cl20 k25 k76 k77 k78 k79 cl53 cl99 cl36 k37 k42 k32
theorem k81:SpecParseA DD 17 Tbl:=parseA k71
theorem k82:SpecDigits DD 76:=spec76 cl76
theorem k83:SpecNumR DD 77:=spec77 cl77 k82
theorem k84:SpecTold DD 83:=spec83 cl83 k5 k6
theorem k85:SpecFrontN DD 78:=spec78 cl78
theorem k86:SpecSym DD 79:=spec79 cl79
theorem k87:∀ n,SpecRR DD 33 Tbl n:=read_ref cl33 k82 k83 k85 k86
theorem k88:SpecTermR DD 13 Tbl:=spec13 cl13 k26 cl32 k87
theorem k89:∀ n,SpecWrR DD 38 n:=write_ref cl38 k84
theorem k90:SpecShow DD 16 Tbl:=spec16 cl16 k30 k89
theorem k91:SpecSRow DD 14:=spec14 cl14
theorem k92:SpecSRules DD 49:=spec49 cl49 k91
theorem k93:SpecSPairs DD 50:=spec50 cl50
theorem k94:SpecSMono DD 98:=spec98 cl98 k91
theorem k95:SpecSNode DD 51:=spec51 cl51 k94 k93
theorem k96:SpecSame22 DD 19:=spec19 cl19 k91 k92 k93 k95
theorem k98:SpecSum22 DD 24:=spec24 cl24
theorem k99:SpecShown22 DD 11 Tbl:=spec11 cl11 k98 k59 k62 k81 k80 k91 k96
theorem k100:SpecsT DD:=⟨k99,k59,k88,k62,k90,k91,k30⟩
theorem law7 {sg tv:Value} {sig:List Sy} {u:List Int} {x:ByteArray} {h:Am.H} {k:Kv} {kp:Kp} (hs:Sr h sg sig) (hu:Ir h tv u) (hul:u.length≤1048576) (hx:x.size<2 ^ 38) (ht:Tbl h) (hk:∀ h',Ext h h'→k (.bool true) h'):DD 7 [sg,tv,.string x] h k kp:=lawTerms cl7 k100 hs hu hul hx ht hk
end Go.Proofs.YtkdneddcocggdaaGreatDoor.Am
