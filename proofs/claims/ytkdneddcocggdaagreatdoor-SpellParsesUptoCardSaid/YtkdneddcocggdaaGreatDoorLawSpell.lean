/-
  Packed: The laws on spelling: the library's tables as they lie, and all contracts of the model's calls. (Printed by wip/tools/wire.py where contracts are joined.)
-/
import Derived.Test.YtkdneddcocggdaaGreatDoorPkJ
import Derived.Stop.LaidErr
import Derived.Lib.LaidU8
set_option linter.unusedVariables false
set_option linter.unusedSimpArgs false
set_option linter.unnecessarySimpa false
namespace Go.Proofs.YtkdneddcocggdaaGreatDoor.Am
open Go Go.Proofs Go.RowKit Go.Lib Sys Sp
set_option maxRecDepth 100000
theorem xNy {W:World} {b:Nat} {v:Value} (hv:W.cell? ⟨b,0,none⟩=some v):∃ l,handed W b=some (.ro l)∧∀ j u,W.cell? ⟨b,j,none⟩=some u→l[j]?=some u:=by
 unfold World.cell? at hv
 split at hv
 ·rename_i c t fz hb
  simp only at hb
  refine ⟨c.toList,by simp only [handed,hb],fun j u hu=>?_⟩
  unfold World.cell? at hu
  simp only [hb] at hu
  simpa using hu
 ·cases hv
theorem xGa {W:World} {n:String} {g:Nat} {cs:Array Value} (hg:Tryz.prog.globalNamed n=some g) (hv:W.var? Tryz.prog n=some cs):handed W g=some (.ro cs.toList):=by
 unfold World.var? at hv
 rw [hg,Option.bind_some] at hv
 cases hb:W.heap[g]? with
 | none=>rw [hb] at hv; cases hv
 | some o =>
  rw [hb] at hv
  cases o <;> first | (cases hv; done) | skip
  rename_i c t fz
  have:c=cs:=by simpa using hv
  subst this
  simp only [handed,hb]
theorem xVy {W:World} (h:Utf8Tabs 0 1 W):∃ l3 l4,handed W 0=some (.ro l3)∧handed W 1=some (.ro l4)∧(∀ c,c<256→l3[c]?=some (.int .u8 (firstT c))) ∧
  ∀ i,i<16→l4[2*i]?=some (.int .u8 (accLo i))∧l4[2*i+1]?=some (.int .u8 (accHi i)):=by
 obtain ⟨h3,h4⟩:=h
 obtain ⟨l3,a1,a2⟩:=xNy (h3 0 (by omega))
 obtain ⟨l4,b1,b2⟩:=xNy (h4 0 (by omega)).1
 exact ⟨l3,l4,a1,b1,fun c hc=>a2 c _ (h3 c hc),fun i hi=>⟨b2 _ _ (h4 i hi).1,b2 _ _ (h4 i hi).2⟩⟩
theorem xPh {W:World} (h3:VarReads Tryz.prog W "unicode/utf8.first" firstData) (h4:VarReads Tryz.prog W "unicode/utf8.acceptRanges" acceptData):Utf8Tabs 0 1 W:=by
 have L:=Tryz.laysValid
 have c5:Tryz.prog.cellsOf 5=1:=by kernel_rfl
 have c2:Tryz.prog.cellsOf 119=2:=by kernel_rfl
 have c256:Tryz.prog.cellsOf 117=256:=by kernel_rfl
 refine ⟨fun c hc=>?_,fun i hi=>?_⟩
 ·obtain ⟨g,t,cs,fuel,p,hg,hty,hvar,hd⟩:=h3
  obtain rfl:g=0:=Option.some.inj (hg.symm.trans (by kernel_rfl))
  obtain rfl:t=117:=Option.some.inj (hty.symm.trans (by kernel_rfl))
  have hcs:=cells_of_tab L.t119 L.t5 c5 c256 hd
  rw [World.var?_cell hg hvar c,← Array.getElem?_toList,hcs]
  simp [firstTab,hc]
 ·obtain ⟨g,t,cs,fuel,p,hg,hty,hvar,hd⟩:=h4
  obtain rfl:g=1:=Option.some.inj (hg.symm.trans (by kernel_rfl))
  obtain rfl:t=120:=Option.some.inj (hty.symm.trans (by kernel_rfl))
  obtain ⟨fuel',d,q,hdi,he⟩:=array_elem L.t139 hd i hi
  simp only [List.getElem?_map,List.getElem?_range hi,Option.map_some,Option.some.injEq] at hdi
  subst hdi
  change DataW.trod _ _ _ _ _ _ _ 119 ((cs.toList.drop (i*Tryz.prog.cellsOf 119)).take (Tryz.prog.cellsOf 119))=_ at he
  rw [c2] at he
  have hcs:=ints_of_struct L.t138 (fun j f hj=>by
   match j,hj with
   | 0,hj=>simp at hj; subst hj; exact ⟨L.t5,rfl,c5⟩
   | 1,hj=>simp at hj; subst hj; exact ⟨L.t5,rfl,c5⟩
   | j+2,hj=>simp at hj) c2 he
  have e0:=congrArg (·[0]?) hcs
  have e1:=congrArg (·[1]?) hcs
  simp only [List.getElem?_take,List.getElem?_drop] at e0 e1
  constructor
  ·rw [World.var?_cell hg hvar (2*i),← Array.getElem?_toList]
   simpa [Nat.mul_comm] using e0
  ·rw [World.var?_cell hg hvar (2*i+1),← Array.getElem?_toList]
   simpa [Nat.mul_comm] using e1
theorem xAg {W:World} (h:VarReads Tryz.prog W "internal/strconv.uint64pow10" (.agg (Lib.pow10Tab.map fun z=>.lit (.int .u64 z)))):handed W 3=some (.ro (Lib.pow10Tab.map fun z=>Value.int .u64 z)):=by
 obtain ⟨g,t,cs,fuel,p,hg,hty,hvar,hd⟩:=h
 obtain rfl:g=3:=Option.some.inj (hg.symm.trans (by kernel_rfl))
 obtain rfl:t=223:=Option.some.inj (hty.symm.trans (by kernel_rfl))
 have hcs:=cells_of_tab (P:=Tryz.prog) Tryz.underlying223 Tryz.underlying166 (by kernel_rfl) (by kernel_rfl) hd
 rw [xGa hg hvar,hcs]
theorem qSg {W:World} {n:String} {g:Nat} {text:List UInt8} {r:List (String × DataW Unit)} (h:laidMet Tryz.prog ((n,.iface "*errors.errorString" (.ptr (.agg [.lit (.string text)])))::r) W) (hg:Tryz.prog.globalNamed n=some g) (ht:(Tryz.prog.globals[g]?).map (·.type)=some 133) :
  ∃ u v,handed W g=some (.ro [.iface u v]):=by
 have hrow:∀ u,Tryz.prog.typeName? 3 u=some "*errors.errorString"→u=231:=fun u h =>
  typeName_ptr_named (nm := "errors.errorString") (by rw [show "*" ++ "errors.errorString" = "*errors.errorString" by decide]; kernel_rfl) (by kernel_rfl) (by decide) u (by rw [show "*" ++ "errors.errorString" = "*errors.errorString" by decide]; exact h)
 obtain ⟨a,s,hv,_⟩:=laid_sentinel h hg ht Tryz.underlying133 hrow Tryz.underlying231 Tryz.underlying233 rfl rfl Tryz.underlying9 (by kernel_rfl) (by kernel_rfl)
 exact ⟨_,_,xGa hg hv⟩
abbrev xUj:List (String × DataW Unit):=[("math/bits.deBruijn32tab",Rows.laid_math_bits_deBruijn32tab),("math/bits.deBruijn64tab",Rows.laid_math_bits_deBruijn64tab),("internal/strconv.uint64pow10",Rows.laid_internal_strconv_uint64pow10),("unicode/utf8.acceptRanges",Rows.laid_unicode_utf8_acceptRanges),("strconv.ErrRange",Rows.laid_strconv_ErrRange),("strconv.ErrSyntax",Rows.laid_strconv_ErrSyntax),("unicode/utf8.first",Rows.laid_unicode_utf8_first)]
theorem xCl {W:World} (hL:laidMet Tryz.prog xUj W):Tbl (handed W):=by
 have e1:firstData=Rows.laid_unicode_utf8_first:=by kernel_rfl
 have e2:acceptData=Rows.laid_unicode_utf8_acceptRanges:=by kernel_rfl
 have e3:(.agg (Lib.pow10Tab.map fun z=>.lit (.int .u64 z)):DataW Unit)=Rows.laid_internal_strconv_uint64pow10:=by kernel_rfl
 refine ⟨xVy (xPh (Lib.laidMet.reads hL (by rw [e1]; simp)) (Lib.laidMet.reads hL (by rw [e2]; simp))),xAg (Lib.laidMet.reads hL (by rw [e3]; simp)),?_,?_⟩
 ·exact qSg hL.tail.tail.tail.tail.tail (by kernel_rfl) (by kernel_rfl)
 ·exact qSg hL.tail.tail.tail.tail (by kernel_rfl) (by kernel_rfl)
noncomputable def lowS:Nat:=(World.holding Tryz.prog default ⟨#[],#[],[]⟩).heap.size
noncomputable def qCt (l:List (String × DataW Unit)) (os:Os):World :=
 let w0:=World.holding Tryz.prog os ⟨#[.cells #[.string ⟨#[118,97,108,117,101,32,111,117,116,32,111,102,32,114,97,110,103,101]⟩] 233,.cells #[.string ⟨#[105,110,118,97,108,105,100,32,115,121,110,116,97,120]⟩] 233],#[],[]⟩
 { w0 with heap:=((layAll Tryz.prog w0.heap l).modify 5 fun
   | .cells _ t frozen=>.cells #[.iface 231 (.pointer (some ⟨lowS,0,none⟩))] t frozen
   | o=>o).modify 4 fun
   | .cells _ t frozen=>.cells #[.iface 231 (.pointer (some ⟨lowS+1,0,none⟩))] t frozen
   | o=>o }
abbrev DD:Orc:=CS Tryz.prog
abbrev EE:Dorc:=DS Tryz.prog
theorem k1:qUh DD 130:=xHj cl130
theorem k2:qUh DD 133:=xHg cl133
theorem k3:qGe DD 131:=xHi cl131
theorem k7:qNv DD 137:=xHe cl137
theorem k8:qOc DD 156:=xGw cl156
theorem k9:qEt DD 138:=xHd cl138 k8
theorem k10:qDj DD 171:=xGs cl171 k8
theorem k11:qEf DD 154:=xGx cl154 k7 k10 k9
theorem k12:qUi DD 127:=xHl cl127 k11
theorem k13:qUi DD 128:=xHk cl128
theorem k14:qKz DD 132:=xHh cl132
theorem k15:qDk DD 136:=xHf cl136
theorem k16:qUy DD 112:=xHs cl112 k15
theorem k17:qNt DD 102:=xHx cl102 k1 k3 k14 k16
theorem k18:qEe DD 29 Tbl:=xNg
theorem k19:qXz letter DD 109:=xHt cl109
theorem k20:qYm DD 70 Tbl:=xMi cl70 k19 k18
theorem k21:qXz letter DD 104:=xHv cl104
theorem k22:qXz more DD 105:=xHu cl105 k21
theorem k23:qYm DD 61 Tbl:=xMj cl61 cl103 k21 k22
theorem k24:qIr DD 71:=xMh cl71 cl110
theorem k25:qAb DD 27 Tbl:=xNh qQw cl27 k20 k24 cl72
theorem k26:qAb DD 31 Tbl:=xNe qQw cl31 k23 cl75
theorem k27:qIo DD:=xHp cl115 cl142 cl205 cl204
theorem k28:qEg DD 34 Tbl:=xNd qQw cl34 cl80 k25 k27
theorem k31:qYv EE 25:=xNi cl25 cl26
theorem k32:qYv EE 52:=xMq cl52 cl26
theorem k33:qUk EE 40:=xNa cl40 cl26
theorem k34:qXz letter DD 140:=xHc cl140
theorem k35:qXz more DD 141:=xHb cl141 k34
theorem k36:qDq DD 116:=xHo
theorem k37:qAa DD 37:=xNc
theorem k38:qGh DD 82 Tbl:=xMa
theorem k39:qIj DD 158:=xGv
theorem k40:qOe DD 159 Tbl:=xGu
theorem k41:xXt DD 160:=xGt
theorem k42:qCe DD 39:=xNb
theorem k43:qUj DD 86:=xLz
theorem k44:qCf DD 180:=xGr
theorem k45:qOb DD 100:=xHz
theorem k46:qDp DD 42 43 (fun r=>decide ((r:Int)=32)):=xMz
theorem k47:xCb DD 150:=xHa cl150 cl164
theorem k48:xXu DD 151 Tbl:=xGz cl151 cl166 cl167 k44
theorem k49:xXs DD 123 Tbl:=xHn cl123 k47 k48
theorem k50:qLz DD 152 Tbl:=xGy cl152 k39 k40 k41
theorem k51:qLz DD 124 Tbl:=xHm cl124 k50
theorem k52:qNx DD 90 Tbl:=xLw cl90 cl28 k49 k51
theorem k53:xBy DD 112:=qGl cl112 k7 k9
theorem k54:qIp DD 113:=xHr cl113 k34 k35 cl111 cl135
theorem k55:qUz DD 89:=xLx cl89 cl122 cl110
theorem k56:qNu DD 114:=xHq cl114 cl28 cl111 cl135
theorem k57:∀ n,xBz DD 74 Tbl n:=xPw cl74 cl28 cl111 cl135 k53 k52 k54 k55 k56
theorem k58:qTa DD 30 Tbl:=xNf cl30 cl28 k57
theorem k59:qYu DD 12 Tbl:=xNr cl12 k25 cl28 k18 k58 k31
theorem k60:xVt DD 81:=xMb cl81 k36
theorem k61:∀ n,xVs DD 35 Tbl n:=xWg cl35 k60 k38
theorem k62:qCb DD 15 Tbl:=xNo cl15 k28 k61 cl36 k37
theorem k63:qOf DD 88:=xLy cl88 cl28
theorem k64:qOa DD 93:=xLt cl93 cl126
theorem k65:qIn DD 92:=xLu cl92 cl28 k55 cl125 cl153 cl99
theorem k66:xXr DD 91 Tbl:=xLv cl91 k63 k58
theorem k67:qNz DD 94:=xLs cl94 cl28
theorem k68:Hyp DD:=⟨k63,cl28,k66,k58,k52,k65,k55,k64,k67,k25,cl53,cl99⟩
theorem k69:qNy DD 95 Tbl:=xLr k68 cl95 k12
theorem k70:qAd DD 44 Tbl:=xMy k68 cl44 k69
theorem k71:qYg DD 17 Tbl:=xNn cl17 cl41 cl87 cl120 rn17 k70 k46 k43 k42 k18 k33
theorem k72:qIg DD 54:=xMp cl54 k45 k60
theorem k73:qNw DD 55 Tbl:=xMo cl55 cl28 k38
theorem k74:qIm DD 57:=xMm cl57 cl28
theorem k75:xBx DD 101 Tbl:=xHy cl101 cl28 k28 k61 k37
theorem k76:SpecsP DD:=⟨k72,k73,k74,k75,cl28⟩
theorem k77:qDm DD 56:=xMn cl56 k76
theorem k78:qCd DD 58:=xMl cl58 k17 k76
theorem k79:qGj DD 59:=xMk cl59 k76
theorem k80:qIl DD 20 Tbl:=xNk cl20 k25 k76 k77 k78 k79 cl53 cl99 cl36 k37 k42 k32
theorem k81:qDn DD 17 Tbl:=xOd k71
theorem k82:qEx DD 76:=xMf cl76
theorem k83:qGg DD 77:=xMe cl77 k82
theorem k85:qDo DD 78:=xMd cl78
theorem k86:qUz DD 79:=xMc cl79
theorem k87:∀ n,xCa DD 33 Tbl n:=xCw cl33 k82 k83 k85 k86
theorem k88:qYu DD 13 Tbl:=xNq cl13 k26 cl32 k87
theorem k91:qJj DD 14:=xNp cl14
theorem k92:qDl DD 49:=xMt cl49 k91
theorem k93:qEw DD 50:=xMs cl50
theorem k94:qIk DD 98:=xLo cl98 k91
theorem k95:qCc DD 51:=xMr cl51 k94 k93
theorem k96:qEv DD 19:=xNl cl19 k91 k92 k93 k95
theorem k98:qIi DD 24:=xNj cl24
theorem k99:qAc DD 11 Tbl:=xNs cl11 k98 k59 k62 k81 k80 k91 k96
theorem k101:qEu DD 45:=xMx cl45
theorem k102:qDi DD 46:=xMw cl46 k101
theorem k103:qGi DD 96:=xLq cl96
theorem k104:qOd DD 47:=xMv cl47 k103
theorem k105:qGd DD 97 Tbl:=xLp cl97 k86 k23 cl107 k88 k13 k83
theorem k106:qIh DD 48 Tbl:=xMu cl48 k103 k105
theorem k107:qYg DD 18 Tbl:=xNm cl18 k101 k102 cl32 k104 k106
theorem k108:SpecsQ DD:=⟨k99,k71,k107,k96⟩
theorem law5 {x:ByteArray} {h:Am.H} {k:Kv} {kp:Kp} (hx:x.size<2 ^ 38) (ht:Tbl h) (hk:∀ h',Ext h h'→k (.bool true) h'):DD 5 [.string x] h k kp:=xEi cl5 k108 hx ht hk
end Go.Proofs.YtkdneddcocggdaaGreatDoor.Am
