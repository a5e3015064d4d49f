/-
  Packed: The laws on spelling: the library's tables as they lie, and all contracts of the model's calls. (Printed by wip/tools/wire.py where contracts are joined.)
-/
import Derived.Test.YtkdneddcocggdaaGreatDoorPkJ
import Derived.Stop.LaidErr
import Derived.Lib.LaidU8
set_option linter.unusedVariables false
set_option linter.unusedSimpArgs false
set_option linter.unnecessarySimpa false
namespace Go.Proofs.YtkdneddcocggdaaGreatDoor.Am
open Go Go.Proofs Go.RowKit Go.Lib Sys Sp
set_option maxRecDepth 100000
theorem xNe {W:World} {b:Nat} {v:Value} (hv:W.cell? ⟨b,0,none⟩=some v):∃ l,handed W b=some (.ro l)∧∀ j u,W.cell? ⟨b,j,none⟩=some u→l[j]?=some u:=by
 unfold World.cell? at hv
 split at hv
 ·rename_i c t fz hb
  simp only at hb
  refine ⟨c.toList,by simp only [handed,hb],fun j u hu=>?_⟩
  unfold World.cell? at hu
  simp only [hb] at hu
  simpa using hu
 ·cases hv
theorem xFt {W:World} {n:String} {g:Nat} {cs:Array Value} (hg:Tryz.prog.globalNamed n=some g) (hv:W.var? Tryz.prog n=some cs):handed W g=some (.ro cs.toList):=by
 unfold World.var? at hv
 rw [hg,Option.bind_some] at hv
 cases hb:W.heap[g]? with
 | none=>rw [hb] at hv; cases hv
 | some o =>
  rw [hb] at hv
  cases o <;> first | (cases hv; done) | skip
  rename_i c t fz
  have:c=cs:=by simpa using hv
  subst this
  simp only [handed,hb]
theorem xVh {W:World} (h:Utf8Tabs 0 1 W):∃ l3 l4,handed W 0=some (.ro l3)∧handed W 1=some (.ro l4)∧(∀ c,c<256→l3[c]?=some (.int .u8 (firstT c))) ∧
  ∀ i,i<16→l4[2*i]?=some (.int .u8 (accLo i))∧l4[2*i+1]?=some (.int .u8 (accHi i)):=by
 obtain ⟨h3,h4⟩:=h
 obtain ⟨l3,a1,a2⟩:=xNe (h3 0 (by omega))
 obtain ⟨l4,b1,b2⟩:=xNe (h4 0 (by omega)).1
 exact ⟨l3,l4,a1,b1,fun c hc=>a2 c _ (h3 c hc),fun i hi=>⟨b2 _ _ (h4 i hi).1,b2 _ _ (h4 i hi).2⟩⟩
theorem xJs {W:World} (h3:VarReads Tryz.prog W "unicode/utf8.first" firstData) (h4:VarReads Tryz.prog W "unicode/utf8.acceptRanges" acceptData):Utf8Tabs 0 1 W:=by
 have L:=Tryz.laysValid
 have c5:Tryz.prog.cellsOf 5=1:=by kernel_rfl
 have c2:Tryz.prog.cellsOf 119=2:=by kernel_rfl
 have c256:Tryz.prog.cellsOf 117=256:=by kernel_rfl
 refine ⟨fun c hc=>?_,fun i hi=>?_⟩
 ·obtain ⟨g,t,cs,fuel,p,hg,hty,hvar,hd⟩:=h3
  obtain rfl:g=0:=Option.some.inj (hg.symm.trans (by kernel_rfl))
  obtain rfl:t=117:=Option.some.inj (hty.symm.trans (by kernel_rfl))
  have hcs:=cells_of_tab L.t119 L.t5 c5 c256 hd
  rw [World.var?_cell hg hvar c,← Array.getElem?_toList,hcs]
  simp [firstTab,hc]
 ·obtain ⟨g,t,cs,fuel,p,hg,hty,hvar,hd⟩:=h4
  obtain rfl:g=1:=Option.some.inj (hg.symm.trans (by kernel_rfl))
  obtain rfl:t=120:=Option.some.inj (hty.symm.trans (by kernel_rfl))
  obtain ⟨fuel',d,q,hdi,he⟩:=array_elem L.t139 hd i hi
  simp only [List.getElem?_map,List.getElem?_range hi,Option.map_some,Option.some.injEq] at hdi
  subst hdi
  change DataW.trod _ _ _ _ _ _ _ 119 ((cs.toList.drop (i*Tryz.prog.cellsOf 119)).take (Tryz.prog.cellsOf 119))=_ at he
  rw [c2] at he
  have hcs:=ints_of_struct L.t138 (fun j f hj=>by
   match j,hj with
   | 0,hj=>simp at hj; subst hj; exact ⟨L.t5,rfl,c5⟩
   | 1,hj=>simp at hj; subst hj; exact ⟨L.t5,rfl,c5⟩
   | j+2,hj=>simp at hj) c2 he
  have e0:=congrArg (·[0]?) hcs
  have e1:=congrArg (·[1]?) hcs
  simp only [List.getElem?_take,List.getElem?_drop] at e0 e1
  constructor
  ·rw [World.var?_cell hg hvar (2*i),← Array.getElem?_toList]
   simpa [Nat.mul_comm] using e0
  ·rw [World.var?_cell hg hvar (2*i+1),← Array.getElem?_toList]
   simpa [Nat.mul_comm] using e1
theorem xUm {W:World} (h:VarReads Tryz.prog W "internal/strconv.uint64pow10" (.agg (Lib.pow10Tab.map fun z=>.lit (.int .u64 z)))):handed W 3=some (.ro (Lib.pow10Tab.map fun z=>Value.int .u64 z)):=by
 obtain ⟨g,t,cs,fuel,p,hg,hty,hvar,hd⟩:=h
 obtain rfl:g=3:=Option.some.inj (hg.symm.trans (by kernel_rfl))
 obtain rfl:t=223:=Option.some.inj (hty.symm.trans (by kernel_rfl))
 have hcs:=cells_of_tab (P:=Tryz.prog) Tryz.underlying223 Tryz.underlying166 (by kernel_rfl) (by kernel_rfl) hd
 rw [xFt hg hvar,hcs]
theorem qRy {W:World} {n:String} {g:Nat} {text:List UInt8} {r:List (String × DataW Unit)} (h:laidMet Tryz.prog ((n,.iface "*errors.errorString" (.ptr (.agg [.lit (.string text)])))::r) W) (hg:Tryz.prog.globalNamed n=some g) (ht:(Tryz.prog.globals[g]?).map (·.type)=some 133) :
  ∃ u v,handed W g=some (.ro [.iface u v]):=by
 have hrow:∀ u,Tryz.prog.typeName? 3 u=some "*errors.errorString"→u=231:=fun u h =>
  typeName_ptr_named (nm := "errors.errorString") (by rw [show "*" ++ "errors.errorString" = "*errors.errorString" by decide]; kernel_rfl) (by kernel_rfl) (by decide) u (by rw [show "*" ++ "errors.errorString" = "*errors.errorString" by decide]; exact h)
 obtain ⟨a,s,hv,_⟩:=laid_sentinel h hg ht Tryz.underlying133 hrow Tryz.underlying231 Tryz.underlying233 rfl rfl Tryz.underlying9 (by kernel_rfl) (by kernel_rfl)
 exact ⟨_,_,xFt hg hv⟩
abbrev xPp:List (String × DataW Unit):=[("math/bits.deBruijn32tab",Rows.laid_math_bits_deBruijn32tab),("math/bits.deBruijn64tab",Rows.laid_math_bits_deBruijn64tab),("internal/strconv.uint64pow10",Rows.laid_internal_strconv_uint64pow10),("unicode/utf8.acceptRanges",Rows.laid_unicode_utf8_acceptRanges),("strconv.ErrRange",Rows.laid_strconv_ErrRange),("strconv.ErrSyntax",Rows.laid_strconv_ErrSyntax),("unicode/utf8.first",Rows.laid_unicode_utf8_first)]
theorem xCa {W:World} (hL:laidMet Tryz.prog xPp W):Tbl (handed W):=by
 have e1:firstData=Rows.laid_unicode_utf8_first:=by kernel_rfl
 have e2:acceptData=Rows.laid_unicode_utf8_acceptRanges:=by kernel_rfl
 have e3:(.agg (Lib.pow10Tab.map fun z=>.lit (.int .u64 z)):DataW Unit)=Rows.laid_internal_strconv_uint64pow10:=by kernel_rfl
 refine ⟨xVh (xJs (Lib.laidMet.reads hL (by rw [e1]; simp)) (Lib.laidMet.reads hL (by rw [e2]; simp))),xUm (Lib.laidMet.reads hL (by rw [e3]; simp)),?_,?_⟩
 ·exact qRy hL.tail.tail.tail.tail.tail (by kernel_rfl) (by kernel_rfl)
 ·exact qRy hL.tail.tail.tail.tail (by kernel_rfl) (by kernel_rfl)
noncomputable def lowS:Nat:=(World.holding Tryz.prog default ⟨#[],#[],[]⟩).heap.size
noncomputable def qCt (l:List (String × DataW Unit)) (os:Os):World :=
 let w0:=World.holding Tryz.prog os ⟨#[.cells #[.string ⟨#[118,97,108,117,101,32,111,117,116,32,111,102,32,114,97,110,103,101]⟩] 233,.cells #[.string ⟨#[105,110,118,97,108,105,100,32,115,121,110,116,97,120]⟩] 233],#[],[]⟩
 { w0 with heap:=((layAll Tryz.prog w0.heap l).modify 5 fun
   | .cells _ t frozen=>.cells #[.iface 231 (.pointer (some ⟨lowS,0,none⟩))] t frozen
   | o=>o).modify 4 fun
   | .cells _ t frozen=>.cells #[.iface 231 (.pointer (some ⟨lowS+1,0,none⟩))] t frozen
   | o=>o }
abbrev DD:Orc:=CS Tryz.prog
abbrev EE:Dorc:=DS Tryz.prog
theorem k1:qPt DD 130:=xHc cl130
theorem k2:qPt DD 133:=xGz cl133
theorem k3:qFw DD 131:=xHb cl131
theorem k7:qNp DD 137:=xGx cl137
theorem k8:qNw DD 156:=xGp cl156
theorem k9:qEe DD 138:=xGw cl138 k8
theorem k10:qDg DD 171:=xGl cl171 k8
theorem k11:qAp DD 154:=xGq cl154 k7 k10 k9
theorem k12:qIh DD 127:=xHd cl127 k11
theorem k14:qKg DD 132:=xHa cl132
theorem k15:qDh DD 136:=xGy cl136
theorem k16:qUo DD 112:=xHk cl112 k15
theorem k17:qNn DD 102:=xHm cl102 k1 k3 k14 k16
theorem k18:qAo DD 29 Tbl:=xMo
theorem k19:qVh letter DD 109:=xHl cl109
theorem k20:qFy DD 70 Tbl:=xLw cl70 k19 k18
theorem k24:qIo DD 71:=xLv cl71 cl110
theorem k25:qDi DD 27 Tbl:=xMp qQs cl27 k20 k24 cl72
theorem k27:qIl DD:=xHh cl115 cl142 cl205 cl204
theorem k28:qAr DD 34 Tbl:=xMm qQs cl34 cl80 k25 k27
theorem k31:qWu EE 25:=xMq cl25 cl26
theorem k32:qWu EE 52:=xMd cl52 cl26
theorem k33:qPw EE 40:=xMj cl40 cl26
theorem k34:qVh letter DD 140:=xGv cl140
theorem k35:qVh more DD 141:=xGu cl141 k34
theorem k36:qDm DD 116:=xHg
theorem k37:qUp DD 37:=xMl
theorem k38:qFz DD 82 Tbl:=xLt
theorem k39:qIf DD 158:=xGo
theorem k40:qNx DD 159 Tbl:=xGn
theorem k41:xXe DD 160:=xGm
theorem k42:qBx DD 39:=xMk
theorem k43:qPv DD 86:=xLs
theorem k44:qBy DD 180:=xGk
theorem k45:qNv DD 100:=xHo
theorem k46:qDl DD 42 43 (fun r=>decide ((r:Int)=32)):=xMi
theorem k47:xBp DD 150:=xGt cl150 cl164
theorem k48:xXf DD 151 Tbl:=xGs cl151 cl166 cl167 k44
theorem k49:xXd DD 123 Tbl:=xHf cl123 k47 k48
theorem k50:qLu DD 152 Tbl:=xGr cl152 k39 k40 k41
theorem k51:qLu DD 124 Tbl:=xHe cl124 k50
theorem k52:qNr DD 90 Tbl:=xLp cl90 cl28 k49 k51
theorem k53:xBn DD 112:=qGe cl112 k7 k9
theorem k54:qIm DD 113:=xHj cl113 k34 k35 cl111 cl135
theorem k55:qId DD 89:=xLq cl89 cl122 cl110
theorem k56:qNo DD 114:=xHi cl114 cl28 cl111 cl135
theorem k57:∀ n,xBo DD 74 Tbl n:=xPe cl74 cl28 cl111 cl135 k53 k52 k54 k55 k56
theorem k58:qSr DD 30 Tbl:=xMn cl30 cl28 k57
theorem k59:qAq DD 12 Tbl:=xMy cl12 k25 cl28 k18 k58 k31
theorem k60:xVd DD 81:=xLu cl81 k36
theorem k61:∀ n,xVc DD 35 Tbl n:=xVo cl35 k60 k38
theorem k62:qBt DD 15 Tbl:=xMw cl15 k28 k61 cl36 k37
theorem k63:qNy DD 88:=xLr cl88 cl28
theorem k64:qNu DD 93:=xLm cl93 cl126
theorem k65:qIk DD 92:=xLn cl92 cl28 k55 cl125 cl153 cl99
theorem k66:xXc DD 91 Tbl:=xLo cl91 k63 k58
theorem k67:qNt DD 94:=xLl cl94 cl28
theorem k68:Hyp DD:=⟨k63,cl28,k66,k58,k52,k65,k55,k64,k67,k25,cl53,cl99⟩
theorem k69:qNs DD 95 Tbl:=xLk k68 cl95 k12
theorem k70:qUq DD 44 Tbl:=xMh k68 cl44 k69
theorem k71:qPu DD 17 Tbl:=xMv cl17 cl41 cl87 cl120 rn17 k70 k46 k43 k42 k18 k33
theorem k72:qIc DD 54:=xMc cl54 k45 k60
theorem k73:qNq DD 55 Tbl:=xMb cl55 cl28 k38
theorem k74:qIi DD 57:=xLz cl57 cl28
theorem k75:xBm DD 101 Tbl:=xHn cl101 cl28 k28 k61 k37
theorem k76:SpecsP DD:=⟨k72,k73,k74,k75,cl28⟩
theorem k77:qDk DD 56:=xMa cl56 k76
theorem k78:qBw DD 58:=xLy cl58 k17 k76
theorem k79:qGa DD 59:=xLx cl59 k76
theorem k80:qBv DD 20 Tbl:=xMt cl20 k25 k76 k77 k78 k79 cl53 cl99 cl36 k37 k42 k32
theorem k81:qEg DD 17 Tbl:=xNj k71
theorem k91:qYh DD 14:=xMx cl14
theorem k92:qDj DD 49:=xMg cl49 k91
theorem k93:qEf DD 50:=xMf cl50
theorem k94:qIg DD 98:=xLj cl98 k91
theorem k95:qBu DD 51:=xMe cl51 k94 k93
theorem k96:qPs DD 19:=xMu cl19 k91 k92 k93 k95
theorem k97:qIj DD 23:=xMs cl23
theorem k98:qIe DD 24:=xMr cl24
theorem k99:qYz DD 11 Tbl:=xMz cl11 k98 k59 k62 k81 k80 k91 k96
theorem k109:SpecsB DD:=⟨k99,k81,k80,k96,k97⟩
theorem law9 {x:ByteArray} {h:Am.H} {k:Kv} {kp:Kp} (hx:x.size<2 ^ 38) (ht:Tbl h) (hk:∀ h',Ext h h'→k (.bool true) h'):DD 9 [.string x] h k kp:=xDb cl9 k109 hx ht hk
end Go.Proofs.YtkdneddcocggdaaGreatDoor.Am
