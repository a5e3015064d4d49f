/-
  Packed: The laws on terms: what is read, what is shown, and one behind the other. From a function's reading to the given statement: the old memory is read only; what was handed in reads as it did. What every law's end needs: the arguments read behind the call as they did; slices of integers are rows of the handed memory; the world of the witness. Arguments that are handed in: rows of numbers, signatures.
-/
import Derived.Test.YtkdneddcocggdaaGreatDoorPkI
import Derived.Test.YtkdneddcocggdaaGreatDoorAmFnsL
import Derived.Test.YtkdneddcocggdaaGreatDoorPkC
import Derived.Test.YtkdneddcocggdaaGreatDoorPkB
import Derived.Carry
import Derived.ChangeSame
import Derived.Below
import Derived.Test.YtkdneddcocggdaaGreatDoorRows
import Derived.Test.YtkdneddcocggdaaGreatDoorCards
import Derived.Test.YtkdneddcocggdaaGreatDoorTie
import Derived.WalkKit
import Derived.ProofKit
import Derived.OpenShut
import Derived.ChangeSlices
import Derived.ChangeMaps5
import Derived.Deep.DeepHandedRow
import Derived.Lib.LaidTab
import Derived.Lib.LaidIn
import Derived.Test.YtkdneddcocggdaaGreatDoorPkS
import Derived.Deep.SlicePairs
import Derived.Lib.SmallJoins
import Derived.Lib.LaidU8
set_option linter.unusedVariables false
set_option linter.unusedSimpArgs false
set_option linter.unnecessarySimpa false
namespace Go.Proofs.YtkdneddcocggdaaGreatDoor.Am
open Go Go.Proofs Go.RowKit Go.Lib Sys Sp
set_option linter.unusedVariables false
set_option linter.unusedSimpArgs false
set_option maxRecDepth 100000
variable {D:Orc} {h h' h0:H} {k:Kv} {kp:Kp}
theorem name_ok {s:ByteArray} (h:isName s=true):nameOk (bts s)=true:=by
  unfold nameOk
  have:(⟨(bts s).toArray⟩:ByteArray)=s:=strB_bts s
  rw [this]; exact h
theorem named_nm {s : ByteArray} (h : named2 s = true) : isNm (bts s) ∧ Sp.Clean (bts s) := by
  unfold named2 at h
  rcases (Bool.or_eq_true _ _).mp h with h | h
  · have := name_ok h
    exact ⟨.inl (name_body this).1,clean_name this⟩
  · unfold isMark at h
    simp only [Bool.and_eq_true,decide_eq_true_eq,beq_iff_eq] at h
    obtain ⟨⟨h1,h2⟩,h3⟩:=h
    have hn:=name_ok h3
    have hsz:(bts s).length=s.size:=rfl
    have hsp:bts s=bts (s.extract 0 (s.size - 1))++[35]:=by
      rw [bts_extract,List.drop_zero]
      have hg:=get!_eq s (s.size - 1) (by omega)
      have:s.get! (s.size - 1)=35:=UInt8.toNat_inj.mp (by have:(35:UInt8).toNat=35:=rfl; omega)
      rw [this] at hg
      have hd:(bts s).drop (s.size - 1)=[35]:=by
        rw [List.drop_eq_getElem_cons (by omega),List.drop_eq_nil_of_le (by omega)]
        rw [List.getElem?_eq_getElem (by omega)] at hg
        rw [Option.some.inj hg]
      rw [← hd,List.take_append_drop]
    rw [hsp]
    exact ⟨.inr ⟨_,(name_body hn).1,rfl⟩,clean_mark (clean_name hn)⟩
theorem sigL_own : ∀ (sig pre : List Sy), sigL pre sig = 0 → ∀ c x, sig[c]? = some x → ∀ y ∈ pre ++ sig.take c, bts y.1 ≠ bts x.1
  | [],pre,_,c,x,hx=>by simp at hx
  | z :: sig, pre, h, c, x, hx => by
    unfold sigL at h
    split at h
    · rename_i h0
      cases c with
      | zero =>
        obtain rfl:z=x:=by simpa using hx
        intro y hy
        rw [List.take_zero,List.append_nil] at hy
        unfold sigAt at h0
        split at h0
        · simp at h0
        · split at h0
          · simp at h0
          · split at h0
            · simp at h0
            · rename_i hany
              intro e
              apply hany
              rw [List.any_eq_true]
              exact ⟨y,hy,by rw [toList_eq,toList_eq,e]; simp⟩
      | succ c =>
        intro y hy
        refine sigL_own sig (pre++[z]) h c x (by simpa using hx) y ?_
        simpa using hy
    · exact absurd h (by assumption)
theorem nms_of {sig : List Sy} (h : chkSig sig = 0) : Nms (S2 sig) ∧ ∀ x ∈ S2 sig, Sp.Clean x.1 := by
  have hall:=(chkSig_named h).2
  refine ⟨⟨fun x hx=>?_,fun c x hx=>?_⟩,fun x hx=>?_⟩
  · unfold S2 at hx
    obtain ⟨y,hy,rfl⟩:=List.mem_map.mp hx
    exact (named_nm (hall y hy).1).1
  · unfold S2 at hx
    rw [List.getElem?_map] at hx
    obtain ⟨y,hy,rfl⟩:=Option.map_eq_some_iff.mp hx
    have hl:sigL [] sig=0:=by
      unfold chkSig at h
      split at h
      · simp at h
      · exact h
    have hown:=sigL_own sig [] hl c y hy
    have hcl:=(List.getElem?_eq_some_iff.mp hy).1
    have hnm:∀ j,(h:j<sig.length)→((S2 sig).map (·.1))[j]?=some (bts sig[j].1):=fun j hj=>by
      unfold S2
      rw [List.map_map,List.getElem?_map,List.getElem?_eq_getElem hj]; rfl
    unfold symI
    rw [List.findIdx?_eq_some_iff_getElem]
    refine ⟨by rw [List.length_map,S2_len]; exact hcl,?_,fun j hj=>?_⟩
    · have := (List.getElem?_eq_some_iff.mp (hnm c hcl)).2
      rw [this]
      have:sig[c]=y:=(List.getElem?_eq_some_iff.mp hy).2
      rw [this]; simp
    · have := (List.getElem?_eq_some_iff.mp (hnm j (by omega))).2
      rw [this]
      have:=hown sig[j] (by
        rw [List.nil_append]
        exact List.mem_of_getElem? (i:=j) (by rw [List.getElem?_take,if_pos hj,List.getElem?_eq_getElem (by omega)]))
      simp [this]
  · unfold S2 at hx
    obtain ⟨y,hy,rfl⟩:=List.mem_map.mp hx
    exact (named_nm (hall y hy).1).2
theorem n33_of {sig:List Sy} (h:chkSig sig=0):∀ x∈S2 sig,x.1.length≤33:=fun x hx=>by
  unfold S2 at hx
  obtain ⟨y,hy,rfl⟩:=List.mem_map.mp hx
  show (bts y.1).length≤33
  rw [bts_len]
  exact named_33 ((chkSig_named h).2 y hy).1
theorem W_small {sig:List Sy} {u:List Int} (hu:u.length≤2 ^ 30) (h:chkTerm sig u=0):(W (S2 sig) u).length<2 ^ 38:=by
  obtain ⟨h1,h2⟩:=chk_parts h
  have:=wt_size (n33_of h1) (W_spec h2)
  omega
theorem termR_err {sig : List Sy} {s : Bs} {e : Int} (h : termR sig s = .error e) : e ≠ 0 := by
  unfold termR at h
  split at h
  · rename_i h1
    obtain rfl:=Except.error.inj h
    exact h1
  · split at h
    · obtain rfl:=Except.error.inj h; decide
    · split at h
      · obtain rfl:=Except.error.inj h; decide
      · unfold readW at h
        split at h
        · rename_i e' he
          obtain rfl:=Except.error.inj h
          exact readT_err _ _ _ he
        · split at h
          · cases h
          · obtain rfl:=Except.error.inj h; decide
theorem show_read {sig : List Sy} {u : List Int} {s : Bs} (h : showR sig u = .ok s) : termR sig s = .ok u ∧ u.length ≤ s.length := by
  unfold showR at h
  split at h
  · cases h
  · rename_i h0
    split at h
    · cases h
    · rename_i h1
      obtain rfl:=Except.ok.inj h
      obtain ⟨hc,ht⟩:=chk_parts (by simpa using h0)
      have w:=W_spec ht
      obtain ⟨hn,hcl⟩:=nms_of hc
      have hv:validD (W (S2 sig) u)=true:=by
        have:=(clean_wt' hcl w).ok []
        rw [List.append_nil] at this
        rw [this]; rfl
      refine ⟨?_,wt_len hn w⟩
      unfold termR
      rw [if_neg (by rw [hc]; simp),if_neg h1,if_neg (by rw [hv]; simp)]
      exact readW_wt hn w
theorem read_show {sig : List Sy} {u : List Int} {s : Bs} (h : termR sig s = .ok u) : showR sig u = .ok s ∧ u.length ≤ 65537 := by
  unfold termR at h
  split at h
  · cases h
  · rename_i h0
    split at h
    · cases h
    · rename_i h1
      split at h
      · cases h
      · have w := readW_inv h
        have hl:=readW_len h
        have hc:chkSig sig=0:=by simpa using h0
        have hct:chkTerm sig u=0:=by
          unfold chkTerm
          rw [if_neg (by rw [hc]; simp)]
          exact w.term
        refine ⟨?_,by omega⟩
        unfold showR
        rw [if_neg (by rw [hct]; simp),W_of w,if_neg h1]
structure SpecsT (D:Orc):Prop where
  shown:SpecShown22 D 11 Tbl
  term:SpecTermR D 12 Tbl
  termR:SpecTermR D 13 Tbl
  show_:SpecShow D 15 Tbl
  showR:SpecShow D 16 Tbl
  row:SpecSRow D 14
  chk:SpecCheck D 22 Tbl
theorem buf_ir {v:Value} {l:List Int} (r:Buf h0 h v (Z l)) (hl:l.length<2 ^ 40) (hr:∀ x∈l,inI x):Ir h v l:=⟨r.row,hl,hr⟩
theorem wt_rng {sig:List Sy} (hsl:sig.length<2 ^ 40) {s:Bs} {u:List Int} (w:Wt (S2 sig) u s):∀ x∈u,inI x:=by
  induction w with
  | @var n hn =>
    intro x hx
    rw [List.mem_singleton.mp hx]
    unfold inI; omega
  | @app c nm a us ss h1 h2 h3 _ ih =>
    intro x hx
    rcases List.mem_cons.mp hx with rfl | hx
    · have := (List.getElem?_eq_some_iff.mp h1).1
      rw [S2_len] at this
      unfold inI; omega
    · obtain ⟨u, hu, hx⟩ := List.mem_flatten.mp hx
      obtain ⟨j,hj,rfl⟩:=List.getElem_of_mem hu
      exact ih j _ _ (List.getElem?_eq_getElem hj) (List.getElem?_eq_getElem (by omega)) x hx
theorem term_rng {sig:List Sy} (hsl:sig.length<2 ^ 40) {s:Bs} {u:List Int} (h:termR sig s=.ok u):∀ x∈u,inI x:=by
  unfold termR at h
  split at h
  · cases h
  · split at h
    · cases h
    · split at h
      · cases h
      · exact wt_rng hsl (readW_inv h)
theorem terms_tail (s:SpecsT D) {sg:Value} {sig:List Sy} {x:ByteArray} (hs:Sr h sg sig) (hx:x.size<2 ^ 38) (ht:Tbl h) (hk:∀ h',Ext h h'→k (.bool true) h'):j7__11 D k kp sg (.string x) (.bool true) h:=by
  unfold j7__11
  rw [strW_string,boolW_bool]
  refine s.term sig sg x h _ _ hx hs ht ?_
  cases hr:termR sig (bts x) with
  | error e =>
    intro h2 e2
    refine ⟨_,_,rfl,?_⟩
    rw [cond_ne]
    refine ⟨fun _=>?_,fun h0=>absurd h0 (termR_err hr)⟩
    rw [cond_true]
    exact hk h2 e2
  | ok u =>
    obtain ⟨hsh,hul⟩:=read_show hr
    have hrg:=term_rng hs.len hr
    intro v h2 e2 b2
    refine ⟨_,_,rfl,?_⟩
    show cond false _ _
    rw [cond_false]
    refine s.show_ sig sg v u h2 _ _ (hs.ext e2) (env_stay _ _ e2 ht) (buf_ir b2 (by omega) hrg) (W_small (by omega)) ?_
    rw [hsh]
    intro h3 e3
    refine ⟨_,_,rfl,?_⟩
    rw [cond_true]
    show cond true _ _
    rw [cond_true,strB_bts,toList_eq,beq_self_eq_true]
    exact hk h3 (e2.trans e3)
theorem lawTerms (c : Cl7 D) (s : SpecsT D) {sg tv : Value} {sig : List Sy} {u : List Int} {x : ByteArray} (hs : Sr h sg sig) (hu : Ir h tv u) (hul : u.length ≤ 1048576) (hx : x.size < 2 ^ 38) (ht : Tbl h) (hk : ∀ h', Ext h h' → k (.bool true) h') : D 7 [sg, tv, .string x] h k kp := by
  refine c _ _ _ _ _ _ ?_
  unfold F7
  rw [strW_string]
  refine s.shown h _ _ ht fun h1 e1=>⟨_,rfl,?_⟩
  show cond false _ _
  rw [cond_false]
  have t1:=env_stay _ _ e1 ht
  refine s.show_ sig sg tv u h1 _ _ (hs.ext e1) t1 (hu.ext e1) (W_small (by omega)) ?_
  have fin:∀ h',Ext h1 h'→j7__11 D k kp sg (.string x) (.bool true) h':=fun h' e'=>terms_tail s (hs.ext (e1.trans e')) hx (env_stay _ _ e' t1) fun h2 e2=>hk h2 ((e1.trans e').trans e2)
  cases hr:Am.showR sig u with
  | error e =>
    intro h2 e2
    refine ⟨_,_,rfl,?_⟩
    refine s.chk sg tv sig u h2 _ _ (hs.ext (e1.trans e2)) (env_stay _ _ e2 t1) (hu.ext (e1.trans e2)) fun h3 e3=>⟨_,rfl,?_⟩
    have he:e≠0∧(chkTerm sig u=0→e=220):=by
      unfold Am.showR at hr
      split at hr
      · rename_i h1
        obtain rfl:=Except.error.inj hr
        exact ⟨h1,fun h=>absurd h h1⟩
      · split at hr
        · obtain rfl:=Except.error.inj hr; exact ⟨by decide,fun _=>rfl⟩
        · cases hr
    have go:j7__6 D k kp sg tv (.string x) (.bool true) (.string (ByteArray.mk #[])) (.int .i64 e) (.bool false) h3:=by
      unfold j7__6
      rw [strW_string,boolW_bool,strW_string,intK_int,boolW_bool,cond_false,cond_eq]
      exact ⟨fun h0=>absurd h0 he.1,fun _=>fin h3 (e2.trans e3)⟩
    rw [cond_eq]
    refine ⟨fun h0=>?_,fun _=>go⟩
    rw [cond_ne]
    refine ⟨fun _=>?_,fun _=>go⟩
    have h220:=he.2 h0
    have:(e != 220)=false:=by rw [h220]; rfl
    rw [this]; exact go
  | ok a =>
    obtain ⟨hrd,hla⟩:=show_read hr
    intro h2 e2
    refine ⟨_,_,rfl,?_⟩
    refine s.chk sg tv sig u h2 _ _ (hs.ext (e1.trans e2)) (env_stay _ _ e2 t1) (hu.ext (e1.trans e2)) fun h3 e3=>⟨_,rfl,?_⟩
    have hal:a.length≤65536:=by
      unfold Am.showR at hr
      split at hr
      · cases hr
      · split at hr
        · cases hr
        · obtain rfl:=Except.ok.inj hr; omega
    have e13:=e2.trans e3
    have go:j7__6 D k kp sg tv (.string x) (.bool true) (.string (strB a)) (.int .i64 0) (.bool false) h3:=by
      unfold j7__6
      rw [strW_string,boolW_bool,strW_string,intK_int,boolW_bool,cond_false]
      show cond true _ _
      rw [cond_true]
      refine s.term sig sg (strB a) h3 _ _ (by rw [size_strB]; omega) (hs.ext (e1.trans e13)) (env_stay _ _ e13 t1) ?_
      rw [bts_strB,hrd]
      have hrg:=term_rng hs.len hrd
      intro v h4 e4 b4
      refine ⟨_,_,rfl,?_⟩
      show cond true _ _
      rw [cond_true]
      refine s.row v tv u u h4 _ _ (buf_ir b4 (by omega) hrg) (hu.ext (e1.trans (e13.trans e4))) fun t h5 e5 h=>⟨t,rfl,?_⟩
      rw [h.mpr rfl]
      show cond true _ _
      rw [cond_true,(hu.ext (e1.trans ((e13.trans e4).trans e5))).len_]
      unfold j7__10
      rw [strW_string,boolW_bool,boolW_bool,size_strB,decide_eq_false (by omega),cond_false]
      exact fin h5 ((e13.trans e4).trans e5)
    rw [cond_eq]
    refine ⟨fun _=>?_,fun _=>go⟩
    show cond false _ _
    rw [cond_false]
    exact go
end Go.Proofs.YtkdneddcocggdaaGreatDoor.Am

namespace Go.Proofs.YtkdneddcocggdaaGreatDoor.Am
open Go Go.ChangeShapes Go.RowKit
set_option linter.unusedSimpArgs false
def handed (W:World):H:=fun b=>match W.heap[b]? with
  | some (.cells l _ _)=>some (.ro l.toList)
  | _=>none
theorem handed_rel (W:World):Rel (handed W) W:=by
  intro b o hb
  unfold handed at hb
  split at hb
  · rename_i l t fz hw
    obtain rfl:=Option.some.inj hb
    exact ⟨t,fz,by rw [hw]⟩
  · cases hb
theorem handed_ro {W:World} {b:Nat}:handed W b=none∨∃ l,handed W b=some (.ro l):=by
  unfold handed
  split
  · exact .inr ⟨_,rfl⟩
  · exact .inl rfl
theorem Frame.below {W W':World} {h':H} (f:Am.Frame (handed W) W h' W'):Below W.heap.size W W' :=
  ⟨f.os,f.tape,f.output,f.size,fun b hb=>f.keep b hb handed_ro⟩
theorem calls_true {P:Program} {f:FuncId} {args:List Value} {W:World} (hf:f<P.funcs.size) (h:CS P f args (handed W) (fun v _=>v=.bool true) (fun _ _=>False)) :
    Calls P f args.toArray W fun e w'=>e=.returned (.bool true)∧Below W.heap.size W w' :=
  CS_calls hf h (handed_rel W) (fun v h' w' hv _ fr=>⟨by rw [hv],fr.below⟩) (fun _ _ _ hc=>hc.elim)
end Go.Proofs.YtkdneddcocggdaaGreatDoor.Am

namespace Go.Proofs.YtkdneddcocggdaaGreatDoor.Am
open Go Go.ChangeShapes Go.WideShapes Go.ChangeAt Go.RowKit
set_option linter.unusedSimpArgs false
set_option linter.unusedVariables false
variable {P:Program} {H:Type} {enc:TypeId × Value→H} {W W':World}
theorem trodAll_stays (hl:laidOutB P=true) (hb:Below W.heap.size W W'):∀ {ts:List TypeId} {vs:List Value} {ds:List (DataW H)} {ps:List MemPlace},
    ts.all (fun t=>P.readableRec t && decide (t<P.types.size))=true→DataW.TrodAll enc P W 0 (fun _=>true) true ts vs ds ps→(∀ x∈ps,x.block<W.heap.size) →
    DataW.TrodAll enc P W' 0 (fun b=>decide (b<W.heap.size)) true ts vs ds ps
  | [], vs, ds, ps, _, h, _ => by
    obtain ⟨rfl,rfl,rfl⟩:=trodAll_nil h
    exact trodAll_mk0
  | t :: ts, vs, ds, ps, ht, h, hlt => by
    obtain ⟨v,vs',d,ds',p,q,rfl,rfl,rfl,h0,h1⟩:=trodAll_cons h
    simp only [List.all_cons,Bool.and_eq_true,decide_eq_true_eq] at ht
    exact trodAll_cons_mk (Below.trod hl ht.1.1 ht.1.2 h0 hb fun x hx=>hlt x (by simp [hx]))
      (trodAll_stays hl hb (by simpa using ht.2) h1 fun x hx=>hlt x (by simp [hx]))
theorem post_true {f:Func} {s:ChangeSpec} {tb:TypeId} {args:Array Value} {ds gs:List (DataW H)} {before:List MemPlace} (hl:laidOutB P=true)
    (hts:f.params.toList.all (fun t=>P.readableRec t && decide (t<P.types.size))=true) (hres:f.resultTypes.toList=[tb]) (htb:P.underlying tb=some .bool) (hvars:s.vars=[])
    (hW:DataW.Whole enc P f.params.toList s.vars false W args.toList ds gs before) (hfn:s.fn H ds={ results:=[.lit (.bool true)],args:=ds }) (hb:Below W.heap.size W W') :
    s.post enc P f false true false false W args (.bool true) W':=by
  have hW':=hW
  obtain ⟨p,q,hA,hV,rfl,_,_⟩:=hW
  rw [hvars] at hV
  obtain ⟨rfl,rfl⟩:=trodVars_none hV
  have hn:f.resultTypes.size=1:=by rw [← Array.length_toList,hres]; rfl
  have hlt:∀ x∈p,x.block<W.heap.size:=fun x hx=>hW'.lt x (by simp [hx])
  refine ⟨ds,[],p++[],[],p,[],hW',?_,?_,?_,?_,fun h=>by cases h⟩
  · rw [hres, List.append_nil, hfn, hn]
    exact trodAll_cons_mk (shut_bool htb _) trodAll_mk0
  · rw [List.append_nil, hfn]
    exact trodAll_stays hl hb hts hA hlt
  · rw [hvars,List.append_nil,hfn]; rfl
  · exact hb.frame _
theorem row_handed {a : Addr} {len cap : Nat} {vs : List Value} (hlen : vs.length = cap) (hl : len ≤ cap) (hc : ∀ i, i < cap → W.cell? (a.add i) = vs[i]?) :
    Row (handed W) (.slice (some a) len cap) (vs.take len):=by
  have hl2:(vs.take len).length=len:=by simp; omega
  by_cases h0:cap=0
  · subst h0
    have:len=0:=by omega
    subst this
    exact Row.empty
  refine ⟨some a,cap,by rw [hl2],by omega,.inr ⟨a,rfl,?_⟩⟩
  have h1:=hc 0 (by omega)
  have hsome:vs[0]?=some (vs[0]'(by omega)):=List.getElem?_eq_getElem _
  rw [hsome,show a.add 0=a by simp [Addr.add]] at h1
  unfold World.cell? at h1
  split at h1
  · rename_i c t fz hb
    split at h1
    · cases h1
    · rename_i hs
      have hsp:a.spot=none:=by simpa using hs
      have hat:∀ i,i<cap→c[a.off+i]?=vs[i]?:=fun i hi=>by
        have:=hc i hi
        unfold World.cell? at this
        have e:(a.add i).block=a.block:=by unfold Addr.add; split <;> rfl
        have e2:(a.add i).off=a.off+i:=by unfold Addr.add; split <;> simp_all
        have e3:(a.add i).spot=none:=by unfold Addr.add; split <;> simp_all
        rw [e,hb] at this
        simp only [e3,Option.isSome_none,Bool.false_eq_true,if_false,e2] at this
        exact this
      refine ⟨hsp,c.toList,?_,?_,?_⟩
      · simp only [handed,hb,rowOf]
      · have := hat (cap - 1) (by omega)
        rw [List.getElem?_eq_getElem (by omega)] at this
        have:=(Array.getElem?_eq_some_iff.mp this).1
        rw [Array.length_toList]; omega
      · rw [hl2]
        apply List.ext_getElem?
        intro i
        rw [List.getElem?_take,List.getElem?_take]
        split
        · rename_i hi
          rw [List.getElem?_drop,Array.getElem?_toList,hat i (by omega)]
        · rfl
  · cases h1
mutual
 def flat:DataW Unit→List Value
   | .lit (.int k n)=>[.int k n]
   | .lit (.bool b)=>[.bool b]
   | .agg ps=>flats ps
   | _=>[]
 def flats:List (DataW Unit)→List Value
   | []=>[]
   | d::l=>flat d++flats l
end
def layAll (P : Program) (h : Array Obj) : List (String × DataW Unit) → Array Obj
  | []=>h
  | (n, d) :: l => layAll P (match P.globalNamed n with
    | some g => h.modify g fun
      | .cells _ t frozen=>.cells (flat d).toArray t frozen
      | o=>o
    | none=>h) l
theorem own:ownKnob Tryz.prog.godebug=none:=by kernel_rfl
theorem laidOut:laidOutB Tryz.pinned.checked.prog=true:=by kernel_rfl
end Go.Proofs.YtkdneddcocggdaaGreatDoor.Am

namespace Go.Proofs.YtkdneddcocggdaaGreatDoor.Am
open Go Go.Proofs Sys Go.ChangeShapes Go.WideShapes Go.ChangeAt Go.RowKit Go.Deep Go.Lib
set_option linter.unusedSimpArgs false
set_option linter.unusedVariables false
set_option maxRecDepth 100000
variable {P:Program} {H:Type} {enc:TypeId × Value→H} {W W':World}
theorem bulk_one:∀ d:DataW H,1≤Rows.uptoBulk d:=fun d=>by
  cases d <;> (first | (rename_i l; cases l <;> simp [Rows.uptoBulk] <;> omega) | (simp [Rows.uptoBulk]; try omega))
theorem bulk_all_len:∀ l:List (DataW H),l.length≤Rows.uptoBulkAll l
  | []=>by simp [Rows.uptoBulkAll]
  | x::r=>by have:=bulk_one x; have:=bulk_all_len r; simp only [Rows.uptoBulkAll,List.length_cons]; omega
theorem bulk_mem:∀ {l:List (DataW H)} {d:DataW H},d∈l→Rows.uptoBulk d≤Rows.uptoBulkAll l
  | [],d,h=>by cases h
  | x :: r, d, h => by
    simp only [Rows.uptoBulkAll]
    rcases List.mem_cons.mp h with rfl | h
    · omega
    · have:=bulk_mem h; omega
theorem flat_pairs (V0 V1:Nat→Value):∀ n:Nat,((List.range n).map fun i=>[V0 i,V1 i]).flatten=(List.range (n*2)).map fun j=>if j % 2=0 then V0 (j / 2) else V1 (j / 2)
  | 0=>rfl
  | n + 1 => by
    rw [List.range_succ,List.map_append,List.flatten_append,flat_pairs V0 V1 n,show (n+1)*2=n*2+1+1 by omega,List.range_succ,List.range_succ]
    simp only [List.map_append,List.map_cons,List.map_nil,List.flatten_cons,List.flatten_nil,List.append_nil,List.append_assoc]
    rw [if_pos (by omega),if_neg (by omega)]
    have e1:n*2 / 2=n:=by omega
    have e2:(n*2+1) / 2=n:=by omega
    rw [e1,e2]; rfl
theorem rowK_handed {a:Addr} {len cap:Nat} {V0 V1:Nat→Value} (hl:len≤cap) (hc:∀ i,i<cap→W.cell? (a.add (i*2))=some (V0 i)∧W.cell? (a.add (i*2+1))=some (V1 i)) :
    RowK 2 (handed W) (.slice (some a) len cap) ((List.range len).map fun i=>[V0 i,V1 i]):=by
  have hr:=row_handed (W:=W) (a:=a) (len:=len*2) (cap:=cap*2) (vs:=(List.range (cap*2)).map fun j=>if j % 2=0 then V0 (j / 2) else V1 (j / 2)) (by simp) (by omega) fun j hj=>by
    rw [List.getElem?_map,List.getElem?_range hj,Option.map_some]
    obtain ⟨h1,h2⟩:=hc (j / 2) (by omega)
    by_cases hm:j % 2=0
    · rw [if_pos hm,← h1]; congr 2; omega
    · rw [if_neg hm,← h2]; congr 2; omega
  have ht:((List.range (cap*2)).map fun j=>if j % 2=0 then V0 (j / 2) else V1 (j / 2)).take (len*2)=((List.range len).map fun i=>[V0 i,V1 i]).flatten:=by
    rw [flat_pairs,← List.map_take,List.take_range,Nat.min_eq_left (by omega)]
  rw [ht] at hr
  obtain ⟨base,cap',he,hc',hb⟩:=hr
  simp only [Value.slice.injEq] at he
  obtain ⟨rfl,he2,rfl⟩:=he
  refine ⟨some a,cap,by simp,by simpa using hl,fun v hv=>?_,?_⟩
  · obtain ⟨i,_,rfl⟩:=List.mem_map.mp hv; rfl
  · rcases hb with hb | ⟨a', h1, h2, l, h3, h4, h5⟩
    · exact .inl (by omega)
    · refine .inr ⟨a', h1, h2, l, h3, h4, ?_⟩
      rw [← he2] at h5
      simpa using h5
theorem ir_handed {t e:TypeId} {n:Nat} {v:Value} {y:DataW H × List MemPlace} (ht:P.underlying t=some (.slice e)) (he:P.underlying e=some (.int .i64)) (hc:P.cellsOf e=1)
    (h:DataW.trod enc P W 0 (fun _=>true) true n t [v]=some y) (hb:Rows.uptoBulk y.1≤1048576):∃ l,Ir (handed W) v l∧l.length≤1048576:=by
  rcases open_ints ht he hc h with ⟨hcs,hx⟩ | ⟨a',len',cap',zs,hcs,_,hlc,_,hz,hx,hcell,hwf⟩
  · simp only [List.cons.injEq, and_true] at hcs
    subst hcs
    exact ⟨[],⟨Row.nil_,by simp,by simp⟩,by simp⟩
  · simp only [List.cons.injEq, and_true] at hcs
    subst hcs
    simp only [if_true] at hz
    have hx1:y.1=.slice (lits .i64 (zs.take len')) (lits .i64 (zs.drop len')):=by rw [hx]
    have hlen:len'≤1048576:=by
      rw [hx1] at hb
      have h1:=bulk_all_len (lits (H:=H) .i64 (zs.take len'))
      simp only [Rows.uptoBulk] at hb
      simp only [lits,List.length_map,List.length_take] at h1 hb
      omega
    have hr:=row_handed (W:=W) (a:=a') (len:=len') (cap:=cap') (vs:=zs.map (Value.int .i64)) (by simp [hz]) hlc fun i hi=>by
      rw [hcell i (by omega),List.getElem?_map,List.getElem?_eq_getElem (by omega)]
      simp [List.getD_eq_getElem?_getD,List.getElem?_eq_getElem (show i<zs.length by omega)]
    have hU:(zs.map (Value.int .i64)).take len'=Z (zs.take len'):=by rw [← List.map_take]; rfl
    rw [hU] at hr
    refine ⟨zs.take len',⟨hr,by rw [List.length_take]; omega,fun x hx=>?_⟩,by rw [List.length_take]; omega⟩
    have:=hwf x (List.mem_of_mem_take hx)
    simp only [Lit.wf,decide_eq_true_eq,Bool.and_eq_true] at this
    have h1:IntKind.i64.min=-9223372036854775808:=by decide
    have h2:IntKind.i64.max=9223372036854775807:=by decide
    unfold inI; omega
theorem sr_handed {n:Nat} {v:Value} {y:DataW H × List MemPlace} (h:DataW.trod enc Tryz.prog W 0 (fun _=>true) true n 22 [v]=some y) (hb:Rows.uptoBulk y.1≤1048576):∃ sig,Sr (handed W) v sig∧sig.length≤1048576:=by
  rcases open_slice_pairs Tryz.underlying22 Tryz.underlying94 (by kernel_rfl) rfl rfl (by kernel_rfl) (by kernel_rfl) h with ⟨hcs,hx⟩ | ⟨a,len,cap,m,n',V0,V1,D0,D1,P0,P1,hcs,_,hlc,_,hm,hx,hall⟩
  · simp only [List.cons.injEq, and_true] at hcs
    subst hcs
    exact ⟨[],⟨RowK.nil_,by simp,by simp⟩,by simp⟩
  · simp only [List.cons.injEq, and_true] at hcs
    subst hcs
    have hm:m=cap:=hm
    subst hm
    have hx1:y.1=.slice ((List.range len).map fun i=>.agg [D0 i,D1 i]) ((List.range (m - len)).map fun j=>.agg [D0 (len+j),D1 (len+j)]):=by rw [hx]
    rw [hx1] at hb
    simp only [Rows.uptoBulk] at hb
    have hlen:len≤1048576:=by
      have h1:=bulk_all_len ((List.range len).map fun i=>(.agg [D0 i,D1 i]:DataW H))
      simp only [List.length_map,List.length_range] at h1
      omega
    have hstr:∀ i,i<m→∃ x:Sy,V0 i=.string x.1∧V1 i=.int .i64 x.2∧D0 i=.lit (.string x.1.data.toList):=fun i hi=>by
      obtain ⟨_,_,h0,h1⟩:=hall i hi
      obtain ⟨s,hs,hs2,_⟩:=DataW.trod_string Tryz.underlying9 h0
      obtain ⟨z,hz,_,_⟩:=DataW.trod_int Tryz.underlying3 h1
      refine ⟨(s,z),by simpa using hs,by simpa using hz,?_⟩
      have:=congrArg Prod.fst hs2
      exact this
    obtain ⟨X,hX⟩:=Go.Deep.choose_lt (α:=Sy) (p:=fun i x=>V0 i=.string x.1∧V1 i=.int .i64 x.2∧D0 i=.lit (.string x.1.data.toList)) hstr
    have hr:=rowK_handed (W:=W) (a:=a) (len:=len) (cap:=m) (V0:=V0) (V1:=V1) hlc fun i hi=>⟨(hall i hi).1,(hall i hi).2.1⟩
    have hrow:((List.range len).map fun i=>[V0 i,V1 i])=sgRow ((List.range len).map X):=by
      unfold sgRow
      rw [List.map_map]
      apply List.map_congr_left
      intro i hi
      rw [List.mem_range] at hi
      obtain ⟨h1,h2,_⟩:=hX i (by omega)
      rw [h1,h2]; rfl
    rw [hrow] at hr
    refine ⟨_,⟨hr,by simp; omega,fun x hx=>?_⟩,by simp; omega⟩
    obtain ⟨i,hi,rfl⟩:=List.mem_map.mp hx
    rw [List.mem_range] at hi
    obtain ⟨_,_,h3⟩:=hX i (by omega)
    have h4:=bulk_mem (l:=(List.range len).map fun i=>(.agg [D0 i,D1 i]:DataW H)) (List.mem_map.mpr ⟨i,List.mem_range.mpr hi,rfl⟩)
    rw [h3] at h4
    have hsz:((X i).1.data.toList).length=(X i).1.size:=rfl
    simp only [Rows.uptoBulk,Rows.uptoBulkAll,hsz] at h4
    omega
end Go.Proofs.YtkdneddcocggdaaGreatDoor.Am
