/-
  Packed: The laws on spelling: the library's tables as they lie, and all contracts of the model's calls. (Printed by wip/tools/wire.py where contracts are joined.)
-/
import Derived.Test.YtkdneddcocggdaaGreatDoorPkJ
import Derived.Stop.LaidErr
import Derived.Lib.LaidU8
set_option linter.unusedVariables false
set_option linter.unusedSimpArgs false
set_option linter.unnecessarySimpa false
namespace Go.Proofs.YtkdneddcocggdaaGreatDoor.Am
open Go Go.Proofs Go.RowKit Go.Lib Sys Sp
set_option maxRecDepth 100000
theorem xMx {W:World} {b:Nat} {v:Value} (hv:W.cell? ⟨b,0,none⟩=some v):∃ l,handed W b=some (.ro l)∧∀ j u,W.cell? ⟨b,j,none⟩=some u→l[j]?=some u:=by
 unfold World.cell? at hv
 split at hv
 ·rename_i c t fz hb
  simp only at hb
  refine ⟨c.toList,by simp only [handed,hb],fun j u hu=>?_⟩
  unfold World.cell? at hu
  simp only [hb] at hu
  simpa using hu
 ·cases hv
theorem xFc {W:World} {n:String} {g:Nat} {cs:Array Value} (hg:Tryz.prog.globalNamed n=some g) (hv:W.var? Tryz.prog n=some cs):handed W g=some (.ro cs.toList):=by
 unfold World.var? at hv
 rw [hg,Option.bind_some] at hv
 cases hb:W.heap[g]? with
 | none=>rw [hb] at hv; cases hv
 | some o =>
  rw [hb] at hv
  cases o <;> first | (cases hv; done) | skip
  rename_i c t fz
  have:c=cs:=by simpa using hv
  subst this
  simp only [handed,hb]
theorem xVg {W:World} (h:Utf8Tabs 0 1 W):∃ l3 l4,handed W 0=some (.ro l3)∧handed W 1=some (.ro l4)∧(∀ c,c<256→l3[c]?=some (.int .u8 (firstT c))) ∧
  ∀ i,i<16→l4[2*i]?=some (.int .u8 (accLo i))∧l4[2*i+1]?=some (.int .u8 (accHi i)):=by
 obtain ⟨h3,h4⟩:=h
 obtain ⟨l3,a1,a2⟩:=xMx (h3 0 (by omega))
 obtain ⟨l4,b1,b2⟩:=xMx (h4 0 (by omega)).1
 exact ⟨l3,l4,a1,b1,fun c hc=>a2 c _ (h3 c hc),fun i hi=>⟨b2 _ _ (h4 i hi).1,b2 _ _ (h4 i hi).2⟩⟩
theorem xJk {W:World} (h3:VarReads Tryz.prog W "unicode/utf8.first" firstData) (h4:VarReads Tryz.prog W "unicode/utf8.acceptRanges" acceptData):Utf8Tabs 0 1 W:=by
 have L:=Tryz.laysValid
 have c5:Tryz.prog.cellsOf 5=1:=by kernel_rfl
 have c2:Tryz.prog.cellsOf 119=2:=by kernel_rfl
 have c256:Tryz.prog.cellsOf 117=256:=by kernel_rfl
 refine ⟨fun c hc=>?_,fun i hi=>?_⟩
 ·obtain ⟨g,t,cs,fuel,p,hg,hty,hvar,hd⟩:=h3
  obtain rfl:g=0:=Option.some.inj (hg.symm.trans (by kernel_rfl))
  obtain rfl:t=117:=Option.some.inj (hty.symm.trans (by kernel_rfl))
  have hcs:=cells_of_tab L.t119 L.t5 c5 c256 hd
  rw [World.var?_cell hg hvar c,← Array.getElem?_toList,hcs]
  simp [firstTab,hc]
 ·obtain ⟨g,t,cs,fuel,p,hg,hty,hvar,hd⟩:=h4
  obtain rfl:g=1:=Option.some.inj (hg.symm.trans (by kernel_rfl))
  obtain rfl:t=120:=Option.some.inj (hty.symm.trans (by kernel_rfl))
  obtain ⟨fuel',d,q,hdi,he⟩:=array_elem L.t139 hd i hi
  simp only [List.getElem?_map,List.getElem?_range hi,Option.map_some,Option.some.injEq] at hdi
  subst hdi
  change DataW.trod _ _ _ _ _ _ _ 119 ((cs.toList.drop (i*Tryz.prog.cellsOf 119)).take (Tryz.prog.cellsOf 119))=_ at he
  rw [c2] at he
  have hcs:=ints_of_struct L.t138 (fun j f hj=>by
   match j,hj with
   | 0,hj=>simp at hj; subst hj; exact ⟨L.t5,rfl,c5⟩
   | 1,hj=>simp at hj; subst hj; exact ⟨L.t5,rfl,c5⟩
   | j+2,hj=>simp at hj) c2 he
  have e0:=congrArg (·[0]?) hcs
  have e1:=congrArg (·[1]?) hcs
  simp only [List.getElem?_take,List.getElem?_drop] at e0 e1
  constructor
  ·rw [World.var?_cell hg hvar (2*i),← Array.getElem?_toList]
   simpa [Nat.mul_comm] using e0
  ·rw [World.var?_cell hg hvar (2*i+1),← Array.getElem?_toList]
   simpa [Nat.mul_comm] using e1
theorem xUi {W:World} (h:VarReads Tryz.prog W "internal/strconv.uint64pow10" (.agg (Lib.pow10Tab.map fun z=>.lit (.int .u64 z)))):handed W 3=some (.ro (Lib.pow10Tab.map fun z=>Value.int .u64 z)):=by
 obtain ⟨g,t,cs,fuel,p,hg,hty,hvar,hd⟩:=h
 obtain rfl:g=3:=Option.some.inj (hg.symm.trans (by kernel_rfl))
 obtain rfl:t=223:=Option.some.inj (hty.symm.trans (by kernel_rfl))
 have hcs:=cells_of_tab (P:=Tryz.prog) Tryz.underlying223 Tryz.underlying166 (by kernel_rfl) (by kernel_rfl) hd
 rw [xFc hg hvar,hcs]
theorem qRu {W:World} {n:String} {g:Nat} {text:List UInt8} {r:List (String × DataW Unit)} (h:laidMet Tryz.prog ((n,.iface "*errors.errorString" (.ptr (.agg [.lit (.string text)])))::r) W) (hg:Tryz.prog.globalNamed n=some g) (ht:(Tryz.prog.globals[g]?).map (·.type)=some 133) :
  ∃ u v,handed W g=some (.ro [.iface u v]):=by
 have hrow:∀ u,Tryz.prog.typeName? 3 u=some "*errors.errorString"→u=231:=fun u h =>
  typeName_ptr_named (nm := "errors.errorString") (by rw [show "*" ++ "errors.errorString" = "*errors.errorString" by decide]; kernel_rfl) (by kernel_rfl) (by decide) u (by rw [show "*" ++ "errors.errorString" = "*errors.errorString" by decide]; exact h)
 obtain ⟨a,s,hv,_⟩:=laid_sentinel h hg ht Tryz.underlying133 hrow Tryz.underlying231 Tryz.underlying233 rfl rfl Tryz.underlying9 (by kernel_rfl) (by kernel_rfl)
 exact ⟨_,_,xFc hg hv⟩
abbrev xPl:List (String × DataW Unit):=[("math/bits.deBruijn32tab",Rows.laid_math_bits_deBruijn32tab),("math/bits.deBruijn64tab",Rows.laid_math_bits_deBruijn64tab),("internal/strconv.uint64pow10",Rows.laid_internal_strconv_uint64pow10),("unicode/utf8.acceptRanges",Rows.laid_unicode_utf8_acceptRanges),("strconv.ErrRange",Rows.laid_strconv_ErrRange),("strconv.ErrSyntax",Rows.laid_strconv_ErrSyntax),("unicode/utf8.first",Rows.laid_unicode_utf8_first)]
theorem xBs {W:World} (hL:laidMet Tryz.prog xPl W):Tbl (handed W):=by
 have e1:firstData=Rows.laid_unicode_utf8_first:=by kernel_rfl
 have e2:acceptData=Rows.laid_unicode_utf8_acceptRanges:=by kernel_rfl
 have e3:(.agg (Lib.pow10Tab.map fun z=>.lit (.int .u64 z)):DataW Unit)=Rows.laid_internal_strconv_uint64pow10:=by kernel_rfl
 refine ⟨xVg (xJk (Lib.laidMet.reads hL (by rw [e1]; simp)) (Lib.laidMet.reads hL (by rw [e2]; simp))),xUi (Lib.laidMet.reads hL (by rw [e3]; simp)),?_,?_⟩
 ·exact qRu hL.tail.tail.tail.tail.tail (by kernel_rfl) (by kernel_rfl)
 ·exact qRu hL.tail.tail.tail.tail (by kernel_rfl) (by kernel_rfl)
noncomputable def lowS:Nat:=(World.holding Tryz.prog default ⟨#[],#[],[]⟩).heap.size
noncomputable def qCu (l:List (String × DataW Unit)) (os:Os):World :=
 let w0:=World.holding Tryz.prog os ⟨#[.cells #[.string ⟨#[118,97,108,117,101,32,111,117,116,32,111,102,32,114,97,110,103,101]⟩] 233,.cells #[.string ⟨#[105,110,118,97,108,105,100,32,115,121,110,116,97,120]⟩] 233],#[],[]⟩
 { w0 with heap:=((layAll Tryz.prog w0.heap l).modify 5 fun
   | .cells _ t frozen=>.cells #[.iface 231 (.pointer (some ⟨lowS,0,none⟩))] t frozen
   | o=>o).modify 4 fun
   | .cells _ t frozen=>.cells #[.iface 231 (.pointer (some ⟨lowS+1,0,none⟩))] t frozen
   | o=>o }
abbrev DD:Orc:=CS Tryz.prog
abbrev EE:Dorc:=DS Tryz.prog
theorem k1:qYw DD 130:=xGj cl130
theorem k2:qYw DD 133:=xGg cl133
theorem k3:qWu DD 131:=xGi cl131
theorem k4:qWu DD 134:=xGf cl134
theorem k5:xBh DD 118:=xGn cl118 k4
theorem k6:qYr DD 108:=xGu cl108 k2 k4
theorem k7:qNo DD 137:=xGd cl137
theorem k8:qNw DD 156:=xFv cl156
theorem k9:qEk DD 138:=xGc cl138 k8
theorem k10:qDg DD 171:=xFr cl171 k8
theorem k11:qAt DD 154:=xFw cl154 k7 k10 k9
theorem k12:qIa DD 127:=xGk cl127 k11
theorem k14:qKq DD 132:=xGh cl132
theorem k15:qDh DD 136:=xGe cl136
theorem k16:qUo DD 112:=xGs cl112 k15
theorem k17:qYr DD 102:=xGz cl102 k1 k3 k14 k16
theorem k18:qAs DD 29 Tbl:=xMf
theorem k19:qXq letter DD 109:=xGt cl109
theorem k20:qWj DD 70 Tbl:=xLc cl70 k19 k18
theorem k21:qXq letter DD 104:=xGx cl104
theorem k22:qXq more DD 105:=xGw cl105 k21
theorem k23:qWj DD 61 Tbl:=xLl cl61 cl103 k21 k22
theorem k24:qIh DD 71:=xLb cl71 cl110
theorem k25:qJz DD 27 Tbl:=xMg qQt cl27 k20 k24 cl72
theorem k26:qJz DD 31 Tbl:=xMd qQt cl31 k23 cl75
theorem k27:qId DD:=xGp cl115 cl142 cl205 cl204
theorem k28:qYd DD 34 Tbl:=xMc qQt cl34 cl80 k25 k27
theorem k29:qNm DD 69:=xLd cl69
theorem k30:qYd DD 22 Tbl:=xMj qQt cl22 k26 k29
theorem k31:qYe EE 25:=xMh cl25 cl26
theorem k32:qYe EE 52:=xLt cl52 cl26
theorem k33:qPx EE 40:=xLz cl40 cl26
theorem k34:qXq letter DD 140:=xGb cl140
theorem k35:qXq more DD 141:=xGa cl141 k34
theorem k36:qDn DD 116:=xGo
theorem k37:qUp DD 37:=xMb
theorem k38:qFz DD 82 Tbl:=xIy
theorem k39:qHy DD 158:=xFu
theorem k40:qNy DD 159 Tbl:=xFt
theorem k41:xQy DD 160:=xFs
theorem k42:qCc DD 39:=xMa
theorem k43:qPv DD 86:=xIw
theorem k44:qCd DD 180:=xFq
theorem k45:qNv DD 100:=xHb
theorem k46:qDm DD 42 43 (fun r=>decide ((r:Int)=32)):=xLy
theorem k47:xBg DD 150:=xFz cl150 cl164
theorem k48:xQz DD 151 Tbl:=xFy cl151 cl166 cl167 k44
theorem k49:xQx DD 123 Tbl:=xGm cl123 k47 k48
theorem k50:qLp DD 152 Tbl:=xFx cl152 k39 k40 k41
theorem k51:qLp DD 124 Tbl:=xGl cl124 k50
theorem k52:qNr DD 90 Tbl:=xIt cl90 cl28 k49 k51
theorem k53:xBe DD 112:=qGf cl112 k7 k9
theorem k54:qIe DD 113:=xGr cl113 k34 k35 cl111 cl135
theorem k55:qHw DD 89:=xIu cl89 cl122 cl110
theorem k56:qNn DD 114:=xGq cl114 cl28 cl111 cl135
theorem k57:∀ n,xBf DD 74 Tbl n:=xJx cl74 cl28 cl111 cl135 k53 k52 k54 k55 k56
theorem k58:qSk DD 30 Tbl:=xMe cl30 cl28 k57
theorem k59:qAu DD 12 Tbl:=xMq cl12 k25 cl28 k18 k58 k31
theorem k60:xVc DD 81:=xIz cl81 k36
theorem k61:∀ n,xVb DD 35 Tbl n:=xVn cl35 k60 k38
theorem k62:qBy DD 15 Tbl:=xMo cl15 k28 k61 cl36 k37
theorem k63:qNz DD 88:=xIv cl88 cl28
theorem k64:qNu DD 93:=xIq cl93 cl126
theorem k65:qIc DD 92:=xIr cl92 cl28 k55 cl125 cl153 cl99
theorem k66:xQw DD 91 Tbl:=xIs cl91 k63 k58
theorem k67:qNt DD 94:=xIp cl94 cl28
theorem k68:Hyp DD:=⟨k63,cl28,k66,k58,k52,k65,k55,k64,k67,k25,cl53,cl99⟩
theorem k69:qNs DD 95 Tbl:=xIo k68 cl95 k12
theorem k70:qUq DD 44 Tbl:=xLx k68 cl44 k69
theorem k71:qPu DD 17 Tbl:=xMn cl17 cl41 cl87 cl120 rn17 k70 k46 k43 k42 k18 k33
theorem k72:qHu DD 54:=xLs cl54 k45 k60
theorem k73:qNq DD 55 Tbl:=xLr cl55 cl28 k38
theorem k74:qIb DD 57:=xLp cl57 cl28
theorem k75:xBd DD 101 Tbl:=xHa cl101 cl28 k28 k61 k37
theorem k76:SpecsP DD:=⟨k72,k73,k74,k75,cl28⟩
theorem k77:qDk DD 56:=xLq cl56 k76
theorem k78:qCb DD 58:=xLo cl58 k17 k76
theorem k79:qGb DD 59:=xLn cl59 k76
theorem k80:qAv DD 20 Tbl:=xMl cl20 k25 k76 k77 k78 k79 cl53 cl99 cl36 k37 k42 k32
theorem k81:qEm DD 17 Tbl:=xNc k71
theorem k84:qFx DD 83:=xIx cl83 k5 k6
theorem k91:qYs DD 14:=xMp cl14
theorem k92:qDi DD 49:=xLw cl49 k91
theorem k93:qEl DD 50:=xLv cl50
theorem k94:qHz DD 98:=xIn cl98 k91
theorem k95:qBz DD 51:=xLu cl51 k94 k93
theorem k96:qPt DD 19:=xMm cl19 k91 k92 k93 k95
theorem k98:qHx DD 24:=xMi cl24
theorem k99:qWp DD 11 Tbl:=xMr cl11 k98 k59 k62 k81 k80 k91 k96
theorem k110:∀ n,xQv DD 38 n:=xVd cl38 k84
theorem k111:qPw DD 60:=xLm cl60
theorem k112:qAr DD 62:=xLk cl62
theorem k113:qNx DD 64:=xLi cl64
theorem k114:qNp DD 63:=xLj cl63 k111 k112 k84
theorem k115:qIg DD 66:=xLg cl66 k111 k112
theorem k116:qHv DD 106:=xGv cl106 k111 k30 k110
theorem k117:SpecsPr DD:=⟨k111,k112,k113,k114,k115,k116⟩
theorem k118:qDj DD 65:=xLh cl65 k117
theorem k119:qCa DD 67:=xLf cl67 k117 k6 cl107
theorem k120:qGa DD 68:=xLe cl68 k117
theorem k121:qDl DD 21 Tbl:=xMk cl21 k117 k26 k23 k118 k119 k120
theorem k122:SpecsW DD:=⟨k99,k80,k121⟩
theorem law6 {cs:List Value} {B:Bk} {h:Am.H} {k:Kv} {kp:Kp} (hb:BkA h cs B) (hwl:cst (fun x:Cm=>x.word.length) B.cmds<2 ^ 36) (ht:Tbl h) (hk:∀ h',Ext h h'→k (.bool true) h'):DD 6 [.agg cs.toArray] h k kp:=xAn cl6 k122 hb hwl ht hk
end Go.Proofs.YtkdneddcocggdaaGreatDoor.Am
