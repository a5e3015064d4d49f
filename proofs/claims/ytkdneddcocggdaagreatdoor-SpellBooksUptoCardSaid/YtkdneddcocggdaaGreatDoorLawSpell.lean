/-
  Packed: The laws on spelling: the library's tables as they lie, and all contracts of the model's calls. (Printed by wip/tools/wire.py where contracts are joined.)
-/
import Derived.Test.YtkdneddcocggdaaGreatDoorPkJ
import Derived.Stop.LaidErr
import Derived.Lib.LaidU8
set_option linter.unusedVariables false
set_option linter.unusedSimpArgs false
set_option linter.unnecessarySimpa false
namespace Go.Proofs.YtkdneddcocggdaaGreatDoor.Am
open Go Go.Proofs Go.RowKit Go.Lib Sys Sp
set_option maxRecDepth 100000
theorem xMq {W:World} {b:Nat} {v:Value} (hv:W.cell? ⟨b,0,none⟩=some v):∃ l,handed W b=some (.ro l)∧∀ j u,W.cell? ⟨b,j,none⟩=some u→l[j]?=some u:=by
 unfold World.cell? at hv
 split at hv
 ·rename_i c t fz hb
  simp only at hb
  refine ⟨c.toList,by simp only [handed,hb],fun j u hu=>?_⟩
  unfold World.cell? at hu
  simp only [hb] at hu
  simpa using hu
 ·cases hv
theorem xFe {W:World} {n:String} {g:Nat} {cs:Array Value} (hg:Tryz.prog.globalNamed n=some g) (hv:W.var? Tryz.prog n=some cs):handed W g=some (.ro cs.toList):=by
 unfold World.var? at hv
 rw [hg,Option.bind_some] at hv
 cases hb:W.heap[g]? with
 | none=>rw [hb] at hv; cases hv
 | some o =>
  rw [hb] at hv
  cases o <;> first | (cases hv; done) | skip
  rename_i c t fz
  have:c=cs:=by simpa using hv
  subst this
  simp only [handed,hb]
theorem xZw {W:World} (h:Utf8Tabs 0 1 W):∃ l3 l4,handed W 0=some (.ro l3)∧handed W 1=some (.ro l4)∧(∀ c,c<256→l3[c]?=some (.int .u8 (firstT c))) ∧
  ∀ i,i<16→l4[2*i]?=some (.int .u8 (accLo i))∧l4[2*i+1]?=some (.int .u8 (accHi i)):=by
 obtain ⟨h3,h4⟩:=h
 obtain ⟨l3,a1,a2⟩:=xMq (h3 0 (by omega))
 obtain ⟨l4,b1,b2⟩:=xMq (h4 0 (by omega)).1
 exact ⟨l3,l4,a1,b1,fun c hc=>a2 c _ (h3 c hc),fun i hi=>⟨b2 _ _ (h4 i hi).1,b2 _ _ (h4 i hi).2⟩⟩
theorem xJh {W:World} (h3:VarReads Tryz.prog W "unicode/utf8.first" firstData) (h4:VarReads Tryz.prog W "unicode/utf8.acceptRanges" acceptData):Utf8Tabs 0 1 W:=by
 have L:=Tryz.laysValid
 have c5:Tryz.prog.cellsOf 5=1:=by kernel_rfl
 have c2:Tryz.prog.cellsOf 119=2:=by kernel_rfl
 have c256:Tryz.prog.cellsOf 117=256:=by kernel_rfl
 refine ⟨fun c hc=>?_,fun i hi=>?_⟩
 ·obtain ⟨g,t,cs,fuel,p,hg,hty,hvar,hd⟩:=h3
  obtain rfl:g=0:=Option.some.inj (hg.symm.trans (by kernel_rfl))
  obtain rfl:t=117:=Option.some.inj (hty.symm.trans (by kernel_rfl))
  have hcs:=cells_of_tab L.t119 L.t5 c5 c256 hd
  rw [World.var?_cell hg hvar c,← Array.getElem?_toList,hcs]
  simp [firstTab,hc]
 ·obtain ⟨g,t,cs,fuel,p,hg,hty,hvar,hd⟩:=h4
  obtain rfl:g=1:=Option.some.inj (hg.symm.trans (by kernel_rfl))
  obtain rfl:t=120:=Option.some.inj (hty.symm.trans (by kernel_rfl))
  obtain ⟨fuel',d,q,hdi,he⟩:=array_elem L.t139 hd i hi
  simp only [List.getElem?_map,List.getElem?_range hi,Option.map_some,Option.some.injEq] at hdi
  subst hdi
  change DataW.trod _ _ _ _ _ _ _ 119 ((cs.toList.drop (i*Tryz.prog.cellsOf 119)).take (Tryz.prog.cellsOf 119))=_ at he
  rw [c2] at he
  have hcs:=ints_of_struct L.t138 (fun j f hj=>by
   match j,hj with
   | 0,hj=>simp at hj; subst hj; exact ⟨L.t5,rfl,c5⟩
   | 1,hj=>simp at hj; subst hj; exact ⟨L.t5,rfl,c5⟩
   | j+2,hj=>simp at hj) c2 he
  have e0:=congrArg (·[0]?) hcs
  have e1:=congrArg (·[1]?) hcs
  simp only [List.getElem?_take,List.getElem?_drop] at e0 e1
  constructor
  ·rw [World.var?_cell hg hvar (2*i),← Array.getElem?_toList]
   simpa [Nat.mul_comm] using e0
  ·rw [World.var?_cell hg hvar (2*i+1),← Array.getElem?_toList]
   simpa [Nat.mul_comm] using e1
theorem xUc {W:World} (h:VarReads Tryz.prog W "internal/strconv.uint64pow10" (.agg (Lib.pow10Tab.map fun z=>.lit (.int .u64 z)))):handed W 3=some (.ro (Lib.pow10Tab.map fun z=>Value.int .u64 z)):=by
 obtain ⟨g,t,cs,fuel,p,hg,hty,hvar,hd⟩:=h
 obtain rfl:g=3:=Option.some.inj (hg.symm.trans (by kernel_rfl))
 obtain rfl:t=223:=Option.some.inj (hty.symm.trans (by kernel_rfl))
 have hcs:=cells_of_tab (P:=Tryz.prog) Tryz.underlying223 Tryz.underlying166 (by kernel_rfl) (by kernel_rfl) hd
 rw [xFe hg hvar,hcs]
theorem qRn {W:World} {n:String} {g:Nat} {text:List UInt8} {r:List (String × DataW Unit)} (h:laidMet Tryz.prog ((n,.iface "*errors.errorString" (.ptr (.agg [.lit (.string text)])))::r) W) (hg:Tryz.prog.globalNamed n=some g) (ht:(Tryz.prog.globals[g]?).map (·.type)=some 133) :
  ∃ u v,handed W g=some (.ro [.iface u v]):=by
 have hrow:∀ u,Tryz.prog.typeName? 3 u=some "*errors.errorString"→u=231:=fun u h =>
  typeName_ptr_named (nm := "errors.errorString") (by rw [show "*" ++ "errors.errorString" = "*errors.errorString" by decide]; kernel_rfl) (by kernel_rfl) (by decide) u (by rw [show "*" ++ "errors.errorString" = "*errors.errorString" by decide]; exact h)
 obtain ⟨a,s,hv,_⟩:=laid_sentinel h hg ht Tryz.underlying133 hrow Tryz.underlying231 Tryz.underlying233 rfl rfl Tryz.underlying9 (by kernel_rfl) (by kernel_rfl)
 exact ⟨_,_,xFe hg hv⟩
abbrev xPf:List (String × DataW Unit):=[("math/bits.deBruijn32tab",Rows.laid_math_bits_deBruijn32tab),("math/bits.deBruijn64tab",Rows.laid_math_bits_deBruijn64tab),("internal/strconv.uint64pow10",Rows.laid_internal_strconv_uint64pow10),("unicode/utf8.acceptRanges",Rows.laid_unicode_utf8_acceptRanges),("strconv.ErrRange",Rows.laid_strconv_ErrRange),("strconv.ErrSyntax",Rows.laid_strconv_ErrSyntax),("unicode/utf8.first",Rows.laid_unicode_utf8_first)]
theorem xBr {W:World} (hL:laidMet Tryz.prog xPf W):Tbl (handed W):=by
 have e1:firstData=Rows.laid_unicode_utf8_first:=by kernel_rfl
 have e2:acceptData=Rows.laid_unicode_utf8_acceptRanges:=by kernel_rfl
 have e3:(.agg (Lib.pow10Tab.map fun z=>.lit (.int .u64 z)):DataW Unit)=Rows.laid_internal_strconv_uint64pow10:=by kernel_rfl
 refine ⟨xZw (xJh (Lib.laidMet.reads hL (by rw [e1]; simp)) (Lib.laidMet.reads hL (by rw [e2]; simp))),xUc (Lib.laidMet.reads hL (by rw [e3]; simp)),?_,?_⟩
 ·exact qRn hL.tail.tail.tail.tail.tail (by kernel_rfl) (by kernel_rfl)
 ·exact qRn hL.tail.tail.tail.tail (by kernel_rfl) (by kernel_rfl)
noncomputable def lowS:Nat:=(World.holding Tryz.prog default ⟨#[],#[],[]⟩).heap.size
noncomputable def qCg (l:List (String × DataW Unit)) (os:Os):World :=
 let w0:=World.holding Tryz.prog os ⟨#[.cells #[.string ⟨#[118,97,108,117,101,32,111,117,116,32,111,102,32,114,97,110,103,101]⟩] 233,.cells #[.string ⟨#[105,110,118,97,108,105,100,32,115,121,110,116,97,120]⟩] 233],#[],[]⟩
 { w0 with heap:=((layAll Tryz.prog w0.heap l).modify 5 fun
   | .cells _ t frozen=>.cells #[.iface 231 (.pointer (some ⟨lowS,0,none⟩))] t frozen
   | o=>o).modify 4 fun
   | .cells _ t frozen=>.cells #[.iface 231 (.pointer (some ⟨lowS+1,0,none⟩))] t frozen
   | o=>o }
abbrev DD:Orc:=CS Tryz.prog
abbrev EE:Dorc:=DS Tryz.prog
theorem k1:qPn DD 130:=xGo cl130
theorem k2:qPn DD 133:=xGl cl133
theorem k3:qJm DD 131:=xGn cl131
theorem k4:qJm DD 134:=xGk cl134
theorem k5:xFn DD 118:=xGs cl118 k4
theorem k7:qNg DD 137:=xGi cl137
theorem k8:qNn DD 156:=xGa cl156
theorem k9:qEd DD 138:=xGh cl138 k8
theorem k10:qCt DD 171:=xFw cl171 k8
theorem k11:qAo DD 154:=xGb cl154 k7 k10 k9
theorem k12:qHt DD 127:=xGp cl127 k11
theorem k14:qKh DD 132:=xGm cl132
theorem k15:qCu DD 136:=xGj cl136
theorem k16:qUg DD 112:=xGx cl112 k15
theorem k17:qNe DD 102:=xGz cl102 k1 k3 k14 k16
theorem k18:qAn DD 29 Tbl:=xMa
theorem k19:qVb letter DD 109:=xGy cl109
theorem k20:qFk DD 70 Tbl:=xLi cl70 k19 k18
theorem k24:qIa DD 71:=xLh cl71 cl110
theorem k25:qCv DD 27 Tbl:=xMb qQu cl27 k20 k24 cl72
theorem k27:qHx DD:=xGu cl115 cl142 cl205 cl204
theorem k28:qAq DD 34 Tbl:=xLy qQu cl34 cl80 k25 k27
theorem k31:qWq EE 25:=xMc cl25 cl26
theorem k32:qWq EE 52:=xLp cl52 cl26
theorem k33:qPq EE 40:=xLv cl40 cl26
theorem k34:qVb letter DD 140:=xGg cl140
theorem k35:qVb more DD 141:=xGf cl141 k34
theorem k36:qCz DD 116:=xGt
theorem k37:qUh DD 37:=xLx
theorem k38:qFl DD 82 Tbl:=xLf
theorem k39:qHr DD 158:=xFz
theorem k40:qNo DD 159 Tbl:=xFy
theorem k41:xQu DD 160:=xFx
theorem k42:qBp DD 39:=xLw
theorem k43:qPp DD 86:=xLe
theorem k44:qBq DD 180:=xFv
theorem k45:qNm DD 100:=xHb
theorem k46:qCy DD 42 43 (fun r=>decide ((r:Int)=32)):=xLu
theorem k47:xBg DD 150:=xGe cl150 cl164
theorem k48:xQv DD 151 Tbl:=xGd cl151 cl166 cl167 k44
theorem k49:xQt DD 123 Tbl:=xGr cl123 k47 k48
theorem k50:qLm DD 152 Tbl:=xGc cl152 k39 k40 k41
theorem k51:qLm DD 124 Tbl:=xGq cl124 k50
theorem k52:qNi DD 90 Tbl:=xLb cl90 cl28 k49 k51
theorem k53:xBe DD 112:=qFq cl112 k7 k9
theorem k54:qHy DD 113:=xGw cl113 k34 k35 cl111 cl135
theorem k55:qHp DD 89:=xLc cl89 cl122 cl110
theorem k56:qNf DD 114:=xGv cl114 cl28 cl111 cl135
theorem k57:∀ n,xBf DD 74 Tbl n:=xJt cl74 cl28 cl111 cl135 k53 k52 k54 k55 k56
theorem k58:qSe DD 30 Tbl:=xLz cl30 cl28 k57
theorem k59:qAp DD 12 Tbl:=xMk cl12 k25 cl28 k18 k58 k31
theorem k60:xZs DD 81:=xLg cl81 k36
theorem k61:∀ n,xZr DD 35 Tbl n:=xVd cl35 k60 k38
theorem k62:qBl DD 15 Tbl:=xMi cl15 k28 k61 cl36 k37
theorem k63:qNp DD 88:=xLd cl88 cl28
theorem k64:qNl DD 93:=xIy cl93 cl126
theorem k65:qHw DD 92:=xIz cl92 cl28 k55 cl125 cl153 cl99
theorem k66:xQs DD 91 Tbl:=xLa cl91 k63 k58
theorem k67:qNk DD 94:=xIx cl94 cl28
theorem k68:Hyp DD:=⟨k63,cl28,k66,k58,k52,k65,k55,k64,k67,k25,cl53,cl99⟩
theorem k69:qNj DD 95 Tbl:=xIw k68 cl95 k12
theorem k70:qUi DD 44 Tbl:=xLt k68 cl44 k69
theorem k71:qPo DD 17 Tbl:=xMh cl17 cl41 cl87 cl120 rn17 k70 k46 k43 k42 k18 k33
theorem k72:qHo DD 54:=xLo cl54 k45 k60
theorem k73:qNh DD 55 Tbl:=xLn cl55 cl28 k38
theorem k74:qHu DD 57:=xLl cl57 cl28
theorem k75:xBd DD 101 Tbl:=xHa cl101 cl28 k28 k61 k37
theorem k76:SpecsP DD:=⟨k72,k73,k74,k75,cl28⟩
theorem k77:qCx DD 56:=xLm cl56 k76
theorem k78:qBo DD 58:=xLk cl58 k17 k76
theorem k79:qFm DD 59:=xLj cl59 k76
theorem k80:qBn DD 20 Tbl:=xMf cl20 k25 k76 k77 k78 k79 cl53 cl99 cl36 k37 k42 k32
theorem k81:qEf DD 17 Tbl:=xMv k71
theorem k91:qYc DD 14:=xMj cl14
theorem k92:qCw DD 49:=xLs cl49 k91
theorem k93:qEe DD 50:=xLr cl50
theorem k94:qHs DD 98:=xIv cl98 k91
theorem k95:qBm DD 51:=xLq cl51 k94 k93
theorem k96:qPm DD 19:=xMg cl19 k91 k92 k93 k95
theorem k97:qHv DD 23:=xMe cl23
theorem k98:qHq DD 24:=xMd cl24
theorem k99:qYt DD 11 Tbl:=xMl cl11 k98 k59 k62 k81 k80 k91 k96
theorem k109:SpecsB DD:=⟨k99,k81,k80,k96,k97⟩
theorem law8 {cs:List Value} {B:Bk} {h:Am.H} {k:Kv} {kp:Kp} (hb:BkA h cs B) (ht:Tbl h) (hk:∀ h',Ext h h'→k (.bool true) h'):DD 8 [.agg cs.toArray] h k kp:=xCp cl8 k109 hb ht hk
end Go.Proofs.YtkdneddcocggdaaGreatDoor.Am
