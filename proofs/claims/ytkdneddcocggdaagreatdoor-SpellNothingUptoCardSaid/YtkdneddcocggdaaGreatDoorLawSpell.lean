/-
  Packed: The laws on spelling: the library's tables as they lie, and all contracts of the model's calls. (Printed by wip/tools/wire.py where contracts are joined.)
-/
import Derived.Test.YtkdneddcocggdaaGreatDoorPkJ
import Derived.Stop.LaidErr
import Derived.Lib.LaidU8
set_option linter.unusedVariables false
set_option linter.unusedSimpArgs false
set_option linter.unnecessarySimpa false
namespace Go.Proofs.YtkdneddcocggdaaGreatDoor.Am
open Go Go.Proofs Go.RowKit Go.Lib Sys Sp
set_option maxRecDepth 100000
theorem xIv {W:World} {b:Nat} {v:Value} (hv:W.cell? ⟨b,0,none⟩=some v):∃ l,handed W b=some (.ro l)∧∀ j u,W.cell? ⟨b,j,none⟩=some u→l[j]?=some u:=by
 unfold World.cell? at hv
 split at hv
 ·rename_i c t fz hb
  simp only at hb
  refine ⟨c.toList,by simp only [handed,hb],fun j u hu=>?_⟩
  unfold World.cell? at hu
  simp only [hb] at hu
  simpa using hu
 ·cases hv
theorem xCt {W:World} {n:String} {g:Nat} {cs:Array Value} (hg:Tryz.prog.globalNamed n=some g) (hv:W.var? Tryz.prog n=some cs):handed W g=some (.ro cs.toList):=by
 unfold World.var? at hv
 rw [hg,Option.bind_some] at hv
 cases hb:W.heap[g]? with
 | none=>rw [hb] at hv; cases hv
 | some o =>
  rw [hb] at hv
  cases o <;> first | (cases hv; done) | skip
  rename_i c t fz
  have:c=cs:=by simpa using hv
  subst this
  simp only [handed,hb]
theorem xXv {W:World} (h:Utf8Tabs 0 1 W):∃ l3 l4,handed W 0=some (.ro l3)∧handed W 1=some (.ro l4)∧(∀ c,c<256→l3[c]?=some (.int .u8 (firstT c))) ∧
  ∀ i,i<16→l4[2*i]?=some (.int .u8 (accLo i))∧l4[2*i+1]?=some (.int .u8 (accHi i)):=by
 obtain ⟨h3,h4⟩:=h
 obtain ⟨l3,a1,a2⟩:=xIv (h3 0 (by omega))
 obtain ⟨l4,b1,b2⟩:=xIv (h4 0 (by omega)).1
 exact ⟨l3,l4,a1,b1,fun c hc=>a2 c _ (h3 c hc),fun i hi=>⟨b2 _ _ (h4 i hi).1,b2 _ _ (h4 i hi).2⟩⟩
theorem xYb {W:World} (h3:VarReads Tryz.prog W "unicode/utf8.first" firstData) (h4:VarReads Tryz.prog W "unicode/utf8.acceptRanges" acceptData):Utf8Tabs 0 1 W:=by
 have L:=Tryz.laysValid
 have c5:Tryz.prog.cellsOf 5=1:=by kernel_rfl
 have c2:Tryz.prog.cellsOf 119=2:=by kernel_rfl
 have c256:Tryz.prog.cellsOf 117=256:=by kernel_rfl
 refine ⟨fun c hc=>?_,fun i hi=>?_⟩
 ·obtain ⟨g,t,cs,fuel,p,hg,hty,hvar,hd⟩:=h3
  obtain rfl:g=0:=Option.some.inj (hg.symm.trans (by kernel_rfl))
  obtain rfl:t=117:=Option.some.inj (hty.symm.trans (by kernel_rfl))
  have hcs:=cells_of_tab L.t119 L.t5 c5 c256 hd
  rw [World.var?_cell hg hvar c,← Array.getElem?_toList,hcs]
  simp [firstTab,hc]
 ·obtain ⟨g,t,cs,fuel,p,hg,hty,hvar,hd⟩:=h4
  obtain rfl:g=1:=Option.some.inj (hg.symm.trans (by kernel_rfl))
  obtain rfl:t=120:=Option.some.inj (hty.symm.trans (by kernel_rfl))
  obtain ⟨fuel',d,q,hdi,he⟩:=array_elem L.t139 hd i hi
  simp only [List.getElem?_map,List.getElem?_range hi,Option.map_some,Option.some.injEq] at hdi
  subst hdi
  change DataW.trod _ _ _ _ _ _ _ 119 ((cs.toList.drop (i*Tryz.prog.cellsOf 119)).take (Tryz.prog.cellsOf 119))=_ at he
  rw [c2] at he
  have hcs:=ints_of_struct L.t138 (fun j f hj=>by
   match j,hj with
   | 0,hj=>simp at hj; subst hj; exact ⟨L.t5,rfl,c5⟩
   | 1,hj=>simp at hj; subst hj; exact ⟨L.t5,rfl,c5⟩
   | j+2,hj=>simp at hj) c2 he
  have e0:=congrArg (·[0]?) hcs
  have e1:=congrArg (·[1]?) hcs
  simp only [List.getElem?_take,List.getElem?_drop] at e0 e1
  constructor
  ·rw [World.var?_cell hg hvar (2*i),← Array.getElem?_toList]
   simpa [Nat.mul_comm] using e0
  ·rw [World.var?_cell hg hvar (2*i+1),← Array.getElem?_toList]
   simpa [Nat.mul_comm] using e1
theorem xJu {W:World} (h:VarReads Tryz.prog W "internal/strconv.uint64pow10" (.agg (Lib.pow10Tab.map fun z=>.lit (.int .u64 z)))):handed W 3=some (.ro (Lib.pow10Tab.map fun z=>Value.int .u64 z)):=by
 obtain ⟨g,t,cs,fuel,p,hg,hty,hvar,hd⟩:=h
 obtain rfl:g=3:=Option.some.inj (hg.symm.trans (by kernel_rfl))
 obtain rfl:t=223:=Option.some.inj (hty.symm.trans (by kernel_rfl))
 have hcs:=cells_of_tab (P:=Tryz.prog) Tryz.underlying223 Tryz.underlying166 (by kernel_rfl) (by kernel_rfl) hd
 rw [xCt hg hvar,hcs]
theorem qOt {W:World} {n:String} {g:Nat} {text:List UInt8} {r:List (String × DataW Unit)} (h:laidMet Tryz.prog ((n,.iface "*errors.errorString" (.ptr (.agg [.lit (.string text)])))::r) W) (hg:Tryz.prog.globalNamed n=some g) (ht:(Tryz.prog.globals[g]?).map (·.type)=some 133) :
  ∃ u v,handed W g=some (.ro [.iface u v]):=by
 have hrow:∀ u,Tryz.prog.typeName? 3 u=some "*errors.errorString"→u=231:=fun u h =>
  typeName_ptr_named (nm := "errors.errorString") (by rw [show "*" ++ "errors.errorString" = "*errors.errorString" by decide]; kernel_rfl) (by kernel_rfl) (by decide) u (by rw [show "*" ++ "errors.errorString" = "*errors.errorString" by decide]; exact h)
 obtain ⟨a,s,hv,_⟩:=laid_sentinel h hg ht Tryz.underlying133 hrow Tryz.underlying231 Tryz.underlying233 rfl rfl Tryz.underlying9 (by kernel_rfl) (by kernel_rfl)
 exact ⟨_,_,xCt hg hv⟩
abbrev xYy:List (String × DataW Unit):=[("math/bits.deBruijn32tab",Rows.laid_math_bits_deBruijn32tab),("math/bits.deBruijn64tab",Rows.laid_math_bits_deBruijn64tab),("internal/strconv.uint64pow10",Rows.laid_internal_strconv_uint64pow10),("unicode/utf8.acceptRanges",Rows.laid_unicode_utf8_acceptRanges),("strconv.ErrRange",Rows.laid_strconv_ErrRange),("strconv.ErrSyntax",Rows.laid_strconv_ErrSyntax),("unicode/utf8.first",Rows.laid_unicode_utf8_first)]
theorem xKf {W:World} (hL:laidMet Tryz.prog xYy W):Tbl (handed W):=by
 have e1:firstData=Rows.laid_unicode_utf8_first:=by kernel_rfl
 have e2:acceptData=Rows.laid_unicode_utf8_acceptRanges:=by kernel_rfl
 have e3:(.agg (Lib.pow10Tab.map fun z=>.lit (.int .u64 z)):DataW Unit)=Rows.laid_internal_strconv_uint64pow10:=by kernel_rfl
 refine ⟨xXv (xYb (Lib.laidMet.reads hL (by rw [e1]; simp)) (Lib.laidMet.reads hL (by rw [e2]; simp))),xJu (Lib.laidMet.reads hL (by rw [e3]; simp)),?_,?_⟩
 ·exact qOt hL.tail.tail.tail.tail.tail (by kernel_rfl) (by kernel_rfl)
 ·exact qOt hL.tail.tail.tail.tail (by kernel_rfl) (by kernel_rfl)
noncomputable def lowS:Nat:=(World.holding Tryz.prog default ⟨#[],#[],[]⟩).heap.size
noncomputable def qBo (l:List (String × DataW Unit)) (os:Os):World :=
 let w0:=World.holding Tryz.prog os ⟨#[.cells #[.string ⟨#[118,97,108,117,101,32,111,117,116,32,111,102,32,114,97,110,103,101]⟩] 233,.cells #[.string ⟨#[105,110,118,97,108,105,100,32,115,121,110,116,97,120]⟩] 233],#[],[]⟩
 { w0 with heap:=((layAll Tryz.prog w0.heap l).modify 5 fun
   | .cells _ t frozen=>.cells #[.iface 231 (.pointer (some ⟨lowS,0,none⟩))] t frozen
   | o=>o).modify 4 fun
   | .cells _ t frozen=>.cells #[.iface 231 (.pointer (some ⟨lowS+1,0,none⟩))] t frozen
   | o=>o }
abbrev DD:Orc:=CS Tryz.prog
abbrev EE:Dorc:=DS Tryz.prog
theorem k1:qJq DD 130:=xFd cl130
theorem k2:qJq DD 133:=xFa cl133
theorem k3:qDv DD 131:=xFc cl131
theorem k7:qMm DD 137:=xDy cl137
theorem k8:qMt DD 156:=xDq cl156
theorem k9:qAc DD 138:=xDx cl138 k8
theorem k10:qCb DD 171:=xDm cl171 k8
theorem k11:qUm DD 154:=xDr cl154 k7 k10 k9
theorem k12:qGz DD 127:=xFe cl127 k11
theorem k14:qEl DD 132:=xFb cl132
theorem k15:qCc DD 136:=xDz cl136
theorem k16:qPj DD 112:=xFl cl112 k15
theorem k17:qMk DD 102:=xFn cl102 k1 k3 k14 k16
theorem k18:qUl DD 29 Tbl:=xIg
theorem k19:qZx letter DD 109:=xFm cl109
theorem k20:qDx DD 70 Tbl:=xHo cl70 k19 k18
theorem k24:qHg DD 71:=xHn cl71 cl110
theorem k25:qCd DD 27 Tbl:=xIh qQt cl27 k20 k24 cl72
theorem k27:qHd DD:=xFi cl115 cl142 cl205 cl204
theorem k28:qUp DD 34 Tbl:=xIe qQt cl34 cl80 k25 k27
theorem k31:qWi EE 25:=xIi cl25 cl26
theorem k32:qWi EE 52:=xHv cl52 cl26
theorem k33:qJt EE 40:=xIb cl40 cl26
theorem k34:qZx letter DD 140:=xDw cl140
theorem k35:qZx more DD 141:=xDv cl141 k34
theorem k36:qCh DD 116:=xFh
theorem k37:qPk DD 37:=xId
theorem k38:qDy DD 82 Tbl:=xHl
theorem k39:qGx DD 158:=xDp
theorem k40:qMu DD 159 Tbl:=xDo
theorem k41:qTw DD 160:=xDn
theorem k42:qKt DD 39:=xIc
theorem k43:qJs DD 86:=xHk
theorem k44:qKu DD 180:=xDl
theorem k45:qMs DD 100:=xFp
theorem k46:qCg DD 42 43 (fun r=>decide ((r:Int)=32)):=xIa
theorem k47:xEs DD 150:=xDu cl150 cl164
theorem k48:qTx DD 151 Tbl:=xDt cl151 cl166 cl167 k44
theorem k49:qTv DD 123 Tbl:=xFg cl123 k47 k48
theorem k50:qIq DD 152 Tbl:=xDs cl152 k39 k40 k41
theorem k51:qIq DD 124 Tbl:=xFf cl124 k50
theorem k52:qMo DD 90 Tbl:=xHh cl90 cl28 k49 k51
theorem k53:xEq DD 112:=qFb cl112 k7 k9
theorem k54:qHe DD 113:=xFk cl113 k34 k35 cl111 cl135
theorem k55:qGv DD 89:=xHi cl89 cl122 cl110
theorem k56:qMl DD 114:=xFj cl114 cl28 cl111 cl135
theorem k57:∀ n,xEr DD 74 Tbl n:=xYn cl74 cl28 cl111 cl135 k53 k52 k54 k55 k56
theorem k58:qRi DD 30 Tbl:=xIf cl30 cl28 k57
theorem k59:qUn DD 12 Tbl:=xIq cl12 k25 cl28 k18 k58 k31
theorem k60:xXs DD 81:=xHm cl81 k36
theorem k61:∀ n,xXr DD 35 Tbl n:=xZc cl35 k60 k38
theorem k62:qKq DD 15 Tbl:=xIo cl15 k28 k61 cl36 k37
theorem k63:qMv DD 88:=xHj cl88 cl28
theorem k64:qMr DD 93:=xHe cl93 cl126
theorem k65:qHc DD 92:=xHf cl92 cl28 k55 cl125 cl153 cl99
theorem k66:qTu DD 91 Tbl:=xHg cl91 k63 k58
theorem k67:qMq DD 94:=xHd cl94 cl28
theorem k68:Hyp DD:=⟨k63,cl28,k66,k58,k52,k65,k55,k64,k67,k25,cl53,cl99⟩
theorem k69:qMp DD 95 Tbl:=xHc k68 cl95 k12
theorem k70:qPl DD 44 Tbl:=xHz k68 cl44 k69
theorem k71:qJr DD 17 Tbl:=xIn cl17 cl41 cl87 cl120 rn17 k70 k46 k43 k42 k18 k33
theorem k72:qGu DD 54:=xHu cl54 k45 k60
theorem k73:qMn DD 55 Tbl:=xHt cl55 cl28 k38
theorem k74:qHa DD 57:=xHr cl57 cl28
theorem k75:xEo DD 101 Tbl:=xFo cl101 cl28 k28 k61 k37
theorem k76:SpecsP DD:=⟨k72,k73,k74,k75,cl28⟩
theorem k77:qCf DD 56:=xHs cl56 k76
theorem k78:qKs DD 58:=xHq cl58 k17 k76
theorem k79:qDz DD 59:=xHp cl59 k76
theorem k80:qUo DD 20 Tbl:=xIl cl20 k25 k76 k77 k78 k79 cl53 cl99 cl36 k37 k42 k32
theorem k81:qAe DD 17 Tbl:=xLa k71
theorem k91:qWt DD 14:=xIp cl14
theorem k92:qCe DD 49:=xHy cl49 k91
theorem k93:qAd DD 50:=xHx cl50
theorem k94:qGy DD 98:=xHb cl98 k91
theorem k95:qKr DD 51:=xHw cl51 k94 k93
theorem k96:qJp DD 19:=xIm cl19 k91 k92 k93 k95
theorem k97:qHb DD 23:=xIk cl23
theorem k98:qGw DD 24:=xIj cl24
theorem k99:qVx DD 11 Tbl:=xIr cl11 k98 k59 k62 k81 k80 k91 k96
theorem k109:SpecsB DD:=⟨k99,k81,k80,k96,k97⟩
theorem law10 {x y:ByteArray} {h:Am.H} {k:Kv} {kp:Kp} (hx:x.size<2 ^ 38) (hy:y.size<2 ^ 38) (ht:Tbl h) (hk:∀ h',Ext h h'→k (.bool true) h'):DD 10 [.string x,.string y] h k kp:=xVm cl10 k109 hx hy ht hk
end Go.Proofs.YtkdneddcocggdaaGreatDoor.Am
