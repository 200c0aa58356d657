/- The interpreter X: texts 23 to 34; no statement of the seat is proved here. -/
import Derived.Test.YtmdlhnojpcnnbaaXH
import Derived.Deep.Upon
import Derived.Scope
namespace Go.X
open Go

def retV:List Value→Value
 | [v]=>v
 | l=>.tuple l.toArray

def footOf (β:Beta)(B0:Obs):Foot where
 blk:=Mine β B0
 hp:=GH β B0
 box n:=if n < lowB∨HL≤n then none else match Obs.get B0 n,β n with
  | some (.box t _),some b=>some (t,b)
  | _,_=>none

def CallOk (P:Program)(f:FuncId)(args:List SV)(B0:Obs)(r:Out):Prop :=
 ∀ (Mo:Nat→Prop) (β:Beta)(vs:List Value)(w:World),Rel P Mo β args B0 vs w→∀ (o:Oper)(a:Act)(next:Act→World→Prop)(Q:Exit→Act→World→Prop),
  (∀ rvs w' β',Rel P Mo β' r.1 r.2 rvs w'→Kp w (footOf β B0) β' r.2 w'→next (a.put o.dst (retV rvs)) w')→o.upon P a next Q ((callFunc f vs.toArray).run P w)
def Par (C:FuncId→List SV→Obs→(Out→Option Out)→Option Out):Prop:=∀ f args B0 K,C f args B0 K=(C f args B0 some).bind K
structure OracleOk (P:Program)(C:FuncId→List SV→Obs→(Out→Option Out)→Option Out):Prop where
 ok:∀ f args B0 r,C f args B0 some=some r→CallOk P f args B0 r
 par:Par C

section
variable {E : Env} {w0 : World} {F : Foot} {Mo : Nat → Prop} {st : St} {K : SV → Obs → Option Out} {r : Out} {a : Act} {w : World} {β : Beta}

theorem RS.noObs {P:Program}{M M':Nat→Prop} {β β':Beta}{B:Obs}(hM:∀ b,¬ M b→b < w.heap.size→¬ M' b){s:SV}{v:Value}(h:RS P w M β [] s v):RS P w M' β' B s v:=by
 have hst:Stable w M w M':=fun b hb hlt=>⟨hM b hb hlt,rfl⟩
 induction h with
 | int a=>exact .int a
 | bool=>exact .bool
 | str a=>exact .str a
 | flt a=>exact .flt a
 | val a b=>exact .val a (b.mono hst)
 | agg a b c d e f _ ih=>exact .agg a b c d e f ih
 | fro a b c=>exact .fro a (b.mono hst) (c.mono hst)
 | ptr a b c=>exact (Obs.no a).elim
 | own a b c d=>exact (Obs.no b).elim
 | ownNil a b c=>exact (Obs.no b).elim
 | mp a b c _=>exact (Obs.no b).elim
 | hval a b=>exact .hval a (b.mono hst (fun i x h=>(GH.no h).elim))
 | hptr a b=>exact (GH.no a).elim
 | hsub _ a b c d e f=>exact (GH.no c).elim
 | nils=>exact .nils
 | nilp=>exact .nilp
 | nili=>exact .nili
 | fn a b _ ih=>exact .fn a b ih
 | tup a b _ ih=>exact .tup a b ih
 | undef=>exact .undef
 | dead=>exact .dead

theorem RS.plainAny {P:Program}{M M':Nat→Prop} {β β':Beta}{B B':Obs}{w':World}{s:SV}{v:Value}(hp:s.plain=true)(h:RS P w M β B s v):RS P w' M' β' B' s v:=by
 cases h with
 | int a=>exact .int a
 | bool=>exact .bool
 | str a=>exact .str a
 | flt a=>exact .flt a
 | _=>cases hp

theorem pass_sound {P:Program}(hR:Rel P Mo β st.T st.B a.tmps.toList w){M':Nat→Prop}(hM:∀ b,M' b→Mut Mo β st.B b){scalar:Bool}(hsc:scalar=true→∀ b,¬ M' b){t:TypeId}{s s':SV}{v:Value}
  (hs:RS P w (Mut Mo β st.B) β st.B s v)(h:s.pass P st scalar t=some s') {β':Beta}:RS P w M' β' [] s' v:=by
 have hst:Stable w (Mut Mo β st.B) w M':=fun b hb _=>⟨fun hm=>hb (hM b hm),rfl⟩
 have plain:∀ {p:PV},s.pvT P t=some p→RS P w M' β' [] (ofPV P t p) v:=by
  intro p hp
  obtain ⟨cs,h1,h2⟩:=hs.pvT hp
  exact RS.ofPV h1 (h2.mono hst)
 by_cases hown:∃ u d,s=.own u d
 ·obtain ⟨u,d,rfl⟩:=hown
  unfold SV.pass at h
  simp only at h
  obtain ⟨hsc1,h⟩:=cond_some h
  have hno:=hsc hsc1
  cases hu:P.underlying t with
  | none=>rw [hu] at h;cases h
  | some dd =>
   rw [hu] at h
   cases dd with
   | slice e =>
    simp only at h
    cases hl:st.elems P e (.own u d) with
    | none=>rw [hl] at h;cases h
    | some l =>
     rw [hl] at h
     injection h with h;subst h
     have ha:isAggT P t=false:=by simp [isAggT,hu]
     rcases elems_sound hR hs hl with ⟨rfl,rfl⟩|⟨ad,c,cs,rfl,hlc,hcm,hcell,hrd⟩
     ·exact .val (pack1 ha) (.nilSlice hu)
     ·exact .val (pack1 ha) (.slice hu rfl hlc hcm (fun i hi=>⟨(hcell i hi).1,fun j x hj=>⟨hno _,(hcell i hi).2 j x hj⟩⟩) (fun i p hi=>(hrd i p hi).mono hst))
   | _=>cases h
 ·have h2:(s.pvT P t).map (ofPV P t)=some s':=by
   revert h
   cases s <;> first
    | exact id
    | exact absurd ⟨_,_,rfl⟩ hown
  cases hp:s.pvT P t with
  | none=>rw [hp] at h2;cases h2
  | some p=>rw [hp] at h2;injection h2 with h2;subst h2;exact plain hp

theorem passAll_sound {P:Program}{scalar:Bool}:∀ {ts:List TypeId}{l l':List SV},passAll P st scalar ts l=some l'→l'.length=l.length ∧
  ∀ (i:Nat)(s s':SV),l[i]?=some s→l'[i]?=some s'→∃ t,s.pass P st scalar t=some s'
 | [],[],l',h=>by
  simp only [passAll,Option.some.injEq] at h;subst h
  exact ⟨rfl,fun i s s' h=>by simp at h⟩
 | [],_ :: _,_,h=>by simp [passAll] at h
 | _ :: _,[],_,h=>by simp [passAll] at h
 | t :: ts,s :: l,l',h=>by
  unfold passAll at h
  cases h1:s.pass P st scalar t with
  | none=>rw [h1] at h;cases h
  | some x =>
   cases h2:passAll P st scalar ts l with
   | none=>rw [h1,h2] at h;cases h
   | some r =>
    rw [h1,h2] at h
    replace h:x :: r=l':=by injection h
    subst h
    obtain ⟨g1,g2⟩:=passAll_sound h2
    refine ⟨by simp [g1],fun i y y' hy hy'=>?_⟩
    cases i with
    | zero =>
     replace hy:s=y:=by simpa using hy
     replace hy':x=y':=by simpa using hy'
     subst hy hy';exact ⟨t,h1⟩
    | succ i=>exact g2 i y y' (by simpa using hy) (by simpa using hy')

theorem run_callOp {o:Oper}{f:FuncId}{args:Array Operand}{ts:Array TypeId}(ho:o.op=.call { callee:=.value (.func f),args,argTypes:=ts })(P:Program)(w:World) :
  (execOp a.eval o).run P w=(callFunc f (args.map a.eval)).run P w:=by
 unfold execOp
 rw [ho]
 simp only [resolve]
 have:a.eval (.func f)=.func (.func f) #[] #[]:=rfl
 rw [this]
 simp only [Deferred.ofValue,Sem.run_bind,Sem.run_pure,Result.andThen_ok,invoke,Array.append_empty,Array.empty_append]

theorem q_call (hC:OracleOk E.P E.C)(hR:Rel E.P Mo β st.T st.B a.tmps.toList w){o:Oper}{f:FuncId}{args:Array Operand}{ts:Array TypeId}(ho:o.op=.call { callee:=.value (.func f),args,argTypes:=ts })
  (h:opQ0 E o st K=some r):QOk E w0 F Mo β o st K r a w:=by
 unfold opQ0 at h
 rw [ho] at h
 simp only [callQ] at h
 cases hf:E.P.funcs[f]? with
 | none=>rw [hf] at h;cases h
 | some fn =>
  rw [hf] at h
  simp only at h
  generalize hsc:fn.resultTypes.toList.all (isScalar E.P)=scalar at h
  cases hl:passAll E.P st scalar fn.params.toList (args.toList.map (st.get E.P o.type)) with
  | none=>rw [hl] at h;cases h
  | some l =>
   rw [hl] at h
   simp only at h
   rw [hC.par] at h
   cases hc:E.C f l [] some with
   | none=>rw [hc] at h;cases h
   | some r' =>
    rw [hc] at h
    simp only [Option.bind_some] at h
    obtain ⟨hb,h⟩:=cond_some h
    simp only [Bool.and_eq_true,Bool.or_eq_true,Bool.not_eq_true',List.isEmpty_iff] at hb
    obtain ⟨hb1,hb2⟩:=hb
    obtain ⟨p1,p2⟩:=passAll_sound hl
    let M':Nat→Prop:=fun b=>scalar=false∧Mut Mo β st.B b
    have hrel:Rel E.P M' (fun _=>none) l [] (args.map a.eval).toList w:=by
     refine ⟨by simp [p1],fun i s v hs hv=>?_,(fun d o h=>(Obs.no h).elim),(fun d o d' o' b c c' h=>(Obs.no h).elim),(fun d o b c h=>(Obs.no h).elim),(fun d o b c h=>(Obs.no h).elim),fun b hb=>?_,hR.gl.sub (by
      rintro b (h|⟨_,_,_,h,_⟩)
      ·exact h.2
      ·exact (Obs.no h).elim)⟩
     ·have hil:=get_lt hs
      rw [p1] at hil
      rw [List.length_map] at hil
      have hx:=List.getElem?_eq_getElem hil
      generalize args.toList[i]=x at hx
      have hv':v=a.eval x:=by
       rw [Array.toList_map,List.getElem?_map,hx] at hv
       injection hv with hv;exact hv.symm
      have hsl:(args.toList.map (st.get E.P o.type))[i]?=some (st.get E.P o.type x):=by rw [List.getElem?_map,hx];rfl
      obtain ⟨t,ht⟩:=p2 i _ s hsl hs
      have hg:=get_sound hR o.type x
      rw [hv']
      have:=pass_sound hR (M':=M') (fun b h=>h.2) (fun h b hb=>by have:=hb.1;rw [h] at this;cases this) hg ht (β':=fun _=>none)
      exact RS.noObs (fun b hb _=>by
       rintro (h|⟨_,_,_,h,_⟩)
       ·exact hb h
       ·exact (Obs.no h).elim) this
     ·rcases hb.2 with h|⟨d,o,c,h1,h2⟩
      ·exact hR.mo b h
      ·exact hR.lt _ _ _ _ h1 h2
    refine ⟨_,_,h,.inl ⟨rfl,fun next Q hn=>?_⟩⟩
    unfold Oper.wp
    rw [run_callOp ho]
    have hvs:args.map a.eval=(args.map a.eval).toList.toArray:=(Array.toArray_toList).symm
    rw [hvs]
    refine hC.ok f l [] r' hc M' _ _ w hrel o a next Q fun rvs w' β' h1 h2=>hn _ _ ?_
    have hnil:r'.2=[]:=hb1
    rw [hnil] at h1 h2
    have hmine:∀ b,¬ Mine (fun _=>none) [] b:=by rintro b ⟨d,o,c,h,_⟩;exact (Obs.no h).elim
    refine ⟨h2.size,fun b hb=>h2.old b hb (hmine b),h2.os,h2.output,?_⟩
    have each:∀ (i:Nat)(s:SV)(v:Value),r'.1[i]?=some s→rvs[i]?=some v→RS E.P w' (Mut Mo β st.B) β st.B s v:=by
     intro i s v hs hv
     have hrs:=h1.slot i s v hs hv
     rcases hb2 with hb2|hb2
     ·refine RS.noObs (fun b hb hlt hm=>hb (.inl ⟨hb2,hm⟩)) hrs
     ·exact RS.plainAny (List.all_eq_true.1 hb2 s (List.mem_of_getElem? hs)) hrs
    have hlen:=h1.len
    by_cases h1s:∃ s,r'.1=[s]
    ·obtain ⟨s,hs⟩:=h1s
     rw [hs] at hlen each ⊢
     obtain ⟨v,rfl⟩:∃ v,rvs=[v]:=by
      match rvs,hlen with
      | [v],_=>exact ⟨v,rfl⟩
     exact each 0 s v rfl rfl
    ·have e1:retSV r'.1=.tup r'.1:=by
      unfold retSV
      split
      ·rename_i s hs;exact absurd ⟨s,hs⟩ h1s
      ·rfl
     have e2:retV rvs=.tuple rvs.toArray:=by
      unfold retV
      split
      ·rename_i v
       exfalso;apply h1s
       match hr:r'.1,hlen with
       | [s],_=>exact ⟨s,rfl⟩
      ·rfl
     rw [e1,e2]
     refine .tup (vs:=fun i=>rvs.getD i undef) (by simp [hlen]) (fun i hi=>?_) (fun i s hs=>?_)
     ·rw [List.getElem?_toArray,List.getElem?_eq_getElem (by omega),List.getD_eq_getElem?_getD,List.getElem?_eq_getElem (by omega)];rfl
     ·have hi:=get_lt hs
      refine each i s _ hs ?_
      rw [List.getD_eq_getElem?_getD,List.getElem?_eq_getElem (by omega)];rfl

end
end Go.X
namespace Go.X
open Go
section
variable {P : Program}

theorem fieldsOf_struct {t:TypeId}{fs:Array Field}(h:P.underlying t=some (.struct fs)):fieldsOf P t=fs.toList:=by simp [fieldsOf,h]
theorem fieldT_of {t:TypeId}{fs:Array Field}{i:Nat}{f:Field}(h:P.underlying t=some (.struct fs))(hf:fs[i]?=some f):fieldT P t i=f.type:=by
 unfold fieldT
 rw [fieldsOf_struct h,show fs.toList[i]?=some f by simpa using hf];rfl

theorem zipIdx_map_get {α γ:Type}(g:α→Nat→γ)(l:List α)(i:Nat)(x:α)(h:l[i]?=some x):(l.zipIdx.map fun (f,i)=>g f i)[i]?=some (g x i):=by
 rw [List.getElem?_map,List.getElem?_zipIdx,h];simp

theorem expand_eq {t:TypeId}{fs:Array Field}{l:List PV}(hu:P.underlying t=some (.struct fs)):∃ ss:List SV,expand P t (.agg l)=.agg t ss∧ss.length=fs.size ∧
  ∀ (i:Nat)(f:Field),fs[i]?=some f→ss[i]?=some (ofPV P f.type ((PV.agg l).fld i)):=by
 refine ⟨_,rfl,?_,fun i f hf=>?_⟩
 ·rw [List.length_map,List.length_zipIdx,fieldsOf_struct hu,Array.length_toList]
 ·rw [fieldsOf_struct hu]
  exact zipIdx_map_get (fun (f:Field) i=>ofPV P f.type ((PV.agg l).fld i)) fs.toList i f (by simpa using hf)

theorem field_val {w:World}{M:Nat→Prop}{fs:Array Field}{l:List PV}{cs:List Value}(hl:l.length=fs.size)
  (hf:∀ (i:Nat)(f:Field)(p:PV),fs[i]?=some f→l[i]?=some p→Rd P w M f.type p (sub cs f.offset (P.cellsOf f.type))) :
  ∃ vs:Nat→Value,∀ (i:Nat)(f:Field),fs[i]?=some f→Pack P f.type (vs i) (sub cs f.offset (P.cellsOf f.type)):=by
 have hall:∀ i:Nat,∃ v,∀ f:Field,fs[i]?=some f→Pack P f.type v (sub cs f.offset (P.cellsOf f.type)):=fun i=>?_
 ·exact ⟨fun i=>(hall i).choose,fun i=>(hall i).choose_spec⟩
 cases hfi:fs[i]? with
 | none=>exact ⟨undef,fun f hf=>by cases hf⟩
 | some f =>
  have hli:i < l.length:=by
   rw [hl]
   rcases Nat.lt_or_ge i fs.size with h|h
   ·exact h
   ·rw [Array.getElem?_eq_none h] at hfi;cases hfi
  obtain ⟨v,hv⟩:=(hf i f _ hfi (List.getElem?_eq_getElem hli)).pack
  exact ⟨v,fun g hg=>by injection hg with hg;subst hg;exact hv⟩

theorem RS.expand {w:World}{M:Nat→Prop} {β:Beta}{B:Obs}{t:TypeId}{fs:Array Field}(hu:P.underlying t=some (.struct fs)){p:PV}{cs:List Value}(hr:Rd P w M t p cs)(h1:∀ c ∈ cs,c.oneCell'=true) :
  ∃ ss,X.expand P t p=.agg t ss∧RS P w M β B (.agg t ss) (.agg cs.toArray):=by
 cases hr with
 | @struct _ gs l _ hu' ht hl hc hf =>
  rw [hu] at hu';injection hu' with hu';injection hu' with hu';subst hu'
  obtain ⟨ss,e1,e2,e3⟩:=expand_eq (l:=l) hu
  obtain ⟨vs,hvs⟩:=field_val hl hf
  refine ⟨ss,e1,.agg (vs:=vs) hu ht e2 hc h1 (fun i f s hfi hs=>?_) (fun i s hs=>?_)⟩
  ·have:=e3 i f hfi
   rw [hs] at this;injection this with this;subst this
   have hli:i < l.length:=by rw [hl,←e2];exact get_lt hs
   have hg:=List.getElem?_eq_getElem hli
   have hp:PV.fld (.agg l) i=l[i]:=by simp only [PV.fld,PV.flds];exact getD_of hg
   rw [hp]
   exact ⟨isT_ofPV (hf i f _ hfi hg),hvs i f hfi⟩
  ·have hil:i < fs.size:=by rw [←e2];exact get_lt hs
   have hfi:fs[i]?=some fs[i]:=Array.getElem?_eq_getElem hil
   have:=e3 i _ hfi
   rw [hs] at this;injection this with this;subst this
   have hg:=List.getElem?_eq_getElem (show i < l.length by omega)
   have hp:PV.fld (.agg l) i=l[i]:=by simp only [PV.fld,PV.flds];exact getD_of hg
   rw [hp]
   exact RS.ofPV (hvs i _ hfi) (hf i _ _ hfi hg)
 | int hu'=>rw [hu] at hu';cases hu'
 | bool hu'=>rw [hu] at hu';cases hu'
 | str hu'=>rw [hu] at hu';cases hu'
 | flt hu'=>rw [hu] at hu';cases hu'
 | nilSlice hu'=>rw [hu] at hu';cases hu'
 | slice hu'=>rw [hu] at hu';cases hu'
 | nilPtr hu'=>rw [hu] at hu';cases hu'
 | ref hu'=>rw [hu] at hu';cases hu'
 | nilIface hu'=>rw [hu] at hu';cases hu'
 | arr hu'=>rw [hu] at hu';cases hu'

theorem RS.set (hL:laidOutB P=true){w:World}{M:Nat→Prop} {β:Beta}{B:Obs}{t:TypeId}{fs:Array Field}{l:List SV}{cs:List Value}(hu:P.underlying t=some (.struct fs))(hr:RS P w M β B (.agg t l) (.agg cs.toArray)){i:Nat}{f:Field}(hf:fs[i]?=some f){off:Nat}{xs:List Value}
  (hoff:off+xs.length≤P.cellsOf f.type)(hx1:∀ c ∈ xs,c.oneCell'=true){s':SV}{v':Value}(h1:RS P w M β B s' v')(h2:s'.isT P f.type)(h3:Pack P f.type v' (splice (sub cs f.offset (P.cellsOf f.type)) off xs)) :
  RS P w M β B (.agg t (l.set i s')) (.agg (splice cs (f.offset+off) xs).toArray):=by
 generalize hv:Value.agg cs.toArray=v0 at hr
 cases hr with
 | @agg _ gs _ cs' vs hu' ht hl hc hone hfl hrs =>
  injection hv with hv
  have hcs:cs=cs':=by simpa using congrArg Array.toList hv
  subst hcs
  rw [hu] at hu';injection hu' with hu';injection hu' with hu';subst hu'
  have lay:=layS hL ht hu
  have hin:=lay.within hf
  have hil:i < l.length:=by
   rw [hl]
   rcases Nat.lt_or_ge i fs.size with h|h
   ·exact h
   ·rw [Array.getElem?_eq_none h] at hf;cases hf
  refine .agg (vs:=fun j=>if j=i then v' else vs j) hu ht (by simpa using hl) (by rw [splice_len (by omega),hc]) (fun c hc=>?_) (fun j g s hg hs=>?_) (fun j s hs=>?_)
  ·rcases mem_splice hc with hc|hc
   ·exact hone c hc
   ·exact hx1 c hc
  ·rw [List.getElem?_set] at hs
   by_cases hij:i=j
   ·subst hij
    rw [if_pos rfl,if_pos hil] at hs
    injection hs with hs;subst hs
    rw [hf] at hg;injection hg with hg;subst hg
    simp only [if_true]
    refine ⟨h2,?_⟩
    have:=sub_splice_in (cs:=cs) (xs:=xs) (o:=off) (a:=f.offset) (n:=P.cellsOf f.type) (by omega) hoff
    change Pack P f.type v' (sub (splice cs (f.offset+off) xs) f.offset (P.cellsOf f.type))
    rw [this];exact h3
   ·rw [if_neg hij] at hs
    obtain ⟨k1,k2⟩:=hfl j g s hg hs
    rw [if_neg (Ne.symm hij)]
    refine ⟨k1,?_⟩
    change Pack P g.type (vs j) (sub (splice cs (f.offset+off) xs) g.offset (P.cellsOf g.type))
    have hg2:=lay.within hg
    rw [sub_splice_out (by omega) ?_]
    ·exact k2
    ·rcases Nat.lt_or_gt_of_ne hij with h|h
     ·have:=lay.apart hf hg h;omega
     ·have:=lay.apart hg hf h;omega
  ·rw [List.getElem?_set] at hs
   by_cases hij:i=j
   ·subst hij
    rw [if_pos rfl,if_pos hil] at hs
    injection hs with hs;subst hs
    simp only [if_true];exact h1
   ·rw [if_neg hij] at hs
    rw [if_neg (Ne.symm hij)];exact hrs j s hs

theorem SV.isT_agg {t u:TypeId}{l:List SV}(h:(SV.agg u l).isT P t):u=t:=by
 rcases h with h|h|h|⟨l',h⟩
 ·simp [SV.pvT] at h
 ·simp [SV.isHandle] at h
 ·cases h
 ·injection h

theorem off_in (hL:laidOutB P=true):∀ (q:List Stp){t t':TypeId}{off:Nat},t < P.types.size→typT P t q=some t'→offT P t q=some off→t' < P.types.size∧off+P.cellsOf t'≤P.cellsOf t
 | [],t,t',off,ht,htt,hoff=>by
  simp only [typT,Option.some.injEq] at htt
  simp only [offT,Option.some.injEq] at hoff
  subst htt;subst hoff
  exact ⟨ht,by omega⟩
 | .fld i :: q,t,t',off,ht,htt,hoff=>by
  simp only [typT] at htt
  simp only [offT] at hoff
  cases hu:P.underlying t with
  | none=>rw [hu] at htt;cases htt
  | some dd =>
   rw [hu] at htt hoff
   cases dd with
   | struct fs =>
    simp only at htt hoff
    cases hf:fs[i]? with
    | none=>rw [hf] at htt;cases htt
    | some f =>
     rw [hf] at htt hoff
     simp only [Option.bind_some] at htt hoff
     have lay:=layS hL ht hu
     have hft:=lay.1 f (by simpa using Array.mem_of_getElem? hf)
     have hin:=lay.within hf
     by_cases h0:P.cellsOf f.type=0
     ·rw [if_pos h0] at hoff;cases hoff
     ·rw [if_neg h0] at hoff
      cases ho':offT P f.type q with
      | none=>rw [ho'] at hoff;cases hoff
      | some off' =>
       rw [ho'] at hoff
       replace hoff:f.offset+off'=off:=by injection hoff
       obtain ⟨g1,g2⟩:=off_in hL q hft htt ho'
       exact ⟨g1,by omega⟩
   | _=>cases htt
 | .idx i :: q,t,t',off,ht,htt,hoff=>by
  simp only [typT] at htt
  simp only [offT] at hoff
  cases hu:P.underlying t with
  | none=>rw [hu] at htt;cases htt
  | some dd =>
   rw [hu] at htt hoff
   cases dd with
   | array n e =>
    simp only at htt hoff
    by_cases hi:0≤i∧i < n
    ·rw [if_pos hi] at hoff
     cases ho':offT P e q with
     | none=>rw [ho'] at hoff;cases hoff
     | some off' =>
      rw [ho'] at hoff
      replace hoff:i.toNat * P.cellsOf e+off'=off:=by injection hoff
      have lay:=layA hL ht hu
      obtain ⟨g1,g2⟩:=off_in hL q lay.1 htt ho'
      have:=mul_within (n:=P.cellsOf e) (show i.toNat < n by omega)
      exact ⟨g1,by rw [lay.2];omega⟩
    ·rw [if_neg hi] at hoff;cases hoff
   | _=>cases htt
 | .el i :: q,t,t',off,ht,htt,hoff=>by cases htt

theorem RS.putL (hL:laidOutB P=true){w:World}{M:Nat→Prop} {β:Beta}{B:Obs}{lf:SV}{px:Option PV}{t':TypeId}{v':Value}{xs:List Value}(hlf:RS P w M β B lf v')(hlt:lf.isT P t')(hpk:Pack P t' v' xs)(hxl:xs.length=P.cellsOf t')(hx1:∀ c ∈ xs,c.oneCell'=true)(hpx:∀ x,px=some x→Rd P w M t' x xs) :
  ∀ (q:List Stp){t:TypeId}{s:SV}{v:Value}{cs:List Value}{off:Nat},t < P.types.size→RS P w M β B s v→Pack P t v cs→cs.length=P.cellsOf t→(∀ c ∈ cs,c.oneCell'=true)→s.isT P t →
   typT P t q=some t'→offT P t q=some off→∃ v2,RS P w M β B (SV.putL P lf px t s q) v2∧Pack P t v2 (splice cs off xs)∧(SV.putL P lf px t s q).isT P t
 | [],t,s,v,cs,off,ht,hs,hp,hl,h1,hT,htt,hoff=>by
  simp only [typT,Option.some.injEq] at htt
  simp only [offT,Option.some.injEq] at hoff
  subst htt;subst hoff
  have e:SV.putL P lf px t s []=lf:=by cases s <;> rfl
  rw [e]
  exact ⟨v',hlf,by rw [splice_all (by omega)];exact hpk,hlt⟩
 | .fld i :: q,t,s,v,cs,off,ht,hs,hp,hl,h1,hT,htt,hoff=>by
  have hall:=off_in hL (.fld i :: q) ht htt hoff
  have htt0:=htt
  have hoff0:=hoff
  simp only [typT] at htt
  simp only [offT] at hoff
  cases hu:P.underlying t with
  | none=>rw [hu] at htt;cases htt
  | some dd =>
   rw [hu] at htt hoff
   cases dd with
   | struct fs =>
    simp only at htt hoff
    cases hf:fs[i]? with
    | none=>rw [hf] at htt;cases htt
    | some f =>
     rw [hf] at htt hoff
     simp only [Option.bind_some] at htt hoff
     have lay:=layS hL ht hu
     have hft:=lay.1 f (by simpa using Array.mem_of_getElem? hf)
     have hin:=lay.within hf
     by_cases h0:P.cellsOf f.type=0
     ·rw [if_pos h0] at hoff;cases hoff
     ·rw [if_neg h0] at hoff
      cases ho':offT P f.type q with
      | none=>rw [ho'] at hoff;cases hoff
      | some off' =>
       rw [ho'] at hoff
       replace hoff:f.offset+off'=off:=by injection hoff
       subst hoff
       have hagg:=isAggT_struct hu
       have hv:v=.agg cs.toArray:=by unfold Pack at hp;rw [if_pos hagg] at hp;exact hp
       have hb:=(off_in hL q hft htt ho').2
       have dead:∃ v2,RS P w M β B .dead v2∧Pack P t v2 (splice cs (f.offset+off') xs)∧SV.dead.isT P t :=
        ⟨.agg (splice cs (f.offset+off') xs).toArray,.dead,by simp [Pack,hagg],.inr (.inr (.inl rfl))⟩
       subst hv
       have setf:∀ {l:List SV},RS P w M β B (.agg t l) (.agg cs.toArray)→∀ {s':SV},(∀ s vi,l[i]?=some s→RS P w M β B s vi→s.isT P f.type→Pack P f.type vi (sub cs f.offset (P.cellsOf f.type))→∃ v2,RS P w M β B s' v2∧Pack P f.type v2 (splice (sub cs f.offset (P.cellsOf f.type)) off' xs)∧s'.isT P f.type) →
         ∃ v2,RS P w M β B (.agg t (l.set i s')) v2∧Pack P t v2 (splice cs (f.offset+off') xs)∧(SV.agg t (l.set i s')).isT P t:=by
        intro l hrs s' hn
        have hrs':=hrs
        generalize hvv:Value.agg cs.toArray=v0 at hrs'
        cases hrs' with
        | @agg _ gs _ cs' vs hu' ht2 hl2 hc2 hone2 hfl hrs2 =>
         injection hvv with hvv
         have hcs:cs=cs':=by simpa using congrArg Array.toList hvv
         subst hcs
         rw [hu] at hu';injection hu' with hu';injection hu' with hu';subst hu'
         have hil:i < l.length:=by
          rw [hl2]
          rcases Nat.lt_or_ge i fs.size with h|h
          ·exact h
          ·rw [Array.getElem?_eq_none h] at hf;cases hf
         have hg:=List.getElem?_eq_getElem hil
         obtain ⟨k1,k2⟩:=hfl i f _ hf hg
         obtain ⟨v2,m1,m2,m3⟩:=hn _ (vs i) hg (hrs2 i _ hg) k1 k2
         exact ⟨_,RS.set hL hu hrs hf (by omega) hx1 m1 m3 m2,by simp [Pack,hagg],.inr (.inr (.inr ⟨_,rfl⟩))⟩
       have hsl:(sub cs f.offset (P.cellsOf f.type)).length=P.cellsOf f.type:=sub_len (by omega)
       have hs1:∀ c ∈ sub cs f.offset (P.cellsOf f.type),c.oneCell'=true:=by
        intro c hc
        refine h1 c ?_
        unfold sub at hc
        exact List.mem_of_mem_drop (List.mem_of_mem_take hc)
       cases s with
       | agg u l =>
        have hut:=SV.isT_agg hT
        subst hut
        simp only [SV.putL]
        rw [fieldT_of hu hf]
        refine setf hs fun s vi hsi hri hti hpi=>?_
        have hgd:l.getD i .dead=s:=getD_of hsi
        rw [hgd]
        exact RS.putL hL hlf hlt hpk hxl hx1 hpx q hft hri hpi hsl hs1 hti htt ho'
       | val u p =>
        have hrd:Rd P w M t p cs:=SV.isT_pv hT hs hp
        simp only [SV.putL]
        cases px with
        | some x =>
         simp only
         have:=hrd.put hL _ ht htt0 hoff0 (hpx x rfl)
         exact ⟨.agg (splice cs (f.offset+off') xs).toArray,.val (cs:=splice cs (f.offset+off') xs) (by simp [Pack,hagg]) this,by simp [Pack,hagg],.inl (by simp [SV.pvT])⟩
        | none =>
         cases q with
         | nil =>
          simp only
          obtain ⟨ss,e1,e2⟩:=RS.expand (β:=β) (B:=B) hu hrd h1
          rw [e1]
          simp only
          simp only [typT,Option.some.injEq] at htt
          simp only [offT,Option.some.injEq] at ho'
          subst htt;subst ho'
          exact setf e2 fun s vi hsi hri hti hpi=>⟨v',hlf,by rw [splice_all (by omega)];exact hpk,hlt⟩
         | cons _ _=>exact dead
       | _=>exact dead
   | _=>cases htt
 | .idx i :: q,t,s,v,cs,off,ht,hs,hp,hl,h1,hT,htt,hoff=>by
  have htt0:=htt
  simp only [typT] at htt
  cases hu:P.underlying t with
  | none=>rw [hu] at htt;cases htt
  | some dd =>
   rw [hu] at htt
   cases dd with
   | array n e =>
    have hagg:=isAggT_arr hu
    have dead:∃ v2,RS P w M β B .dead v2∧Pack P t v2 (splice cs off xs)∧SV.dead.isT P t :=
     ⟨.agg (splice cs off xs).toArray,.dead,by simp [Pack,hagg],.inr (.inr (.inl rfl))⟩
    cases s with
    | val u p =>
     have hrd:Rd P w M t p cs:=SV.isT_pv hT hs hp
     simp only [SV.putL]
     cases px with
     | some x =>
      simp only
      have:=hrd.put hL _ ht htt0 hoff (hpx x rfl)
      exact ⟨.agg (splice cs off xs).toArray,.val (cs:=splice cs off xs) (by simp [Pack,hagg]) this,by simp [Pack,hagg],.inl (by simp [SV.pvT])⟩
     | none=>exact dead
    | _=>exact dead
   | _=>cases htt
 | .el i :: q,t,s,v,cs,off,ht,hs,hp,hl,h1,hT,htt,hoff=>by cases htt

end
end Go.X
namespace Go.X
open Go

def EOk (E:Env)(w0:World)(F:Foot)(Mo:Nat→Prop)(o:Oper)(K:St→Option Out)(r:Out)(a:Act)(w:World):Prop :=
 ∃ st',K st'=some r∧∀ next Q,(∀ a' w',Inv E.P w0 F Mo st' a' w'→next a' w')→o.wp E.P a w next Q

section
variable {E : Env} {w0 : World} {F : Foot} {Mo : Nat → Prop} {st : St} {K : St → Option Out} {r : Out} {a : Act} {w : World}

theorem Rel.ext {P:Program} {β:Beta}{T:List SV}{B B':Obs}{vs:List Value}{w:World}(h:Rel P Mo β T B vs w)(hh:Obs.hps B=Obs.hps B')(he:∀ d,Obs.get B d=Obs.get B' d):Rel P Mo β T B' vs w:=by
 have hmine:∀ b,Mine β B' b→Mine β B b:=by
  rintro b ⟨d,o,c,h1,h2⟩
  exact ⟨d,o,c,by rw [he];exact h1,h2⟩
 have hs:Same P w (Mut Mo β B) β B w (Mut Mo β B') β B':=by
  refine ⟨fun b hb _=>⟨fun h=>hb ?_,rfl⟩,fun d ob _ hd=>⟨ob,by rw [←he];exact hd,rfl,fun q off h=>h,fun e l h=>⟨l,h,rfl⟩⟩,fun i x h=>⟨by rw [←hh];exact h.1,h.2⟩⟩
  rcases h with h|h
  ·exact .inl h
  ·exact .inr (hmine b h)
 exact ⟨h.len,fun i s v a b=>(h.slot i s v a b).mono hs,fun d o hd=>(h.ob d o (by rw [he];exact hd)).mono hs (by rw [he];exact hd) (fun _ _ _=>rfl),
  fun d o d' o' b c c' h1 h2=>h.inj d o d' o' b c c' (by rw [he];exact h1) (by rw [he];exact h2),fun d o b c h1=>h.lt d o b c (by rw [he];exact h1),fun d o b c h1=>h.out d o b c (by rw [he];exact h1),h.mo,h.gl.mono hs.st⟩
theorem Kp.ext {β:Beta}{B B':Obs}{w:World}(h:Kp w0 F β B w)(hh:Obs.hps B=Obs.hps B')(he:∀ d,Obs.get B d=Obs.get B' d):Kp w0 F β B' w :=
 ⟨h.size,h.old,fun b ⟨d,o,c,h1,h2⟩=>h.mine b ⟨d,o,c,by rw [he];exact h1,h2⟩,h.os,h.output,fun n t b o hn ho=>h.stay n t b o hn (by rw [he];exact ho),h.low,fun i x hx=>⟨by rw [←hh];exact (h.hpk i x hx).1,(h.hpk i x hx).2⟩⟩

theorem Inv.retire (h:Inv E.P w0 F Mo st a w)(d:Nat):Inv E.P w0 F Mo (st.retire d) a w:=by
 obtain ⟨h1,β,h2,h3⟩:=h
 exact ⟨h1,β,h2.retire d,h3.retire d⟩
theorem Inv.retireAll:∀ (l:List Nat){st:St},Inv E.P w0 F Mo st a w→Inv E.P w0 F Mo (X.retireAll l st) a w
 | [],_,h=>h
 | d :: l,_,h=>Inv.retireAll l (h.retire d)
theorem Inv.freeze (o:Oper)(h:Inv E.P w0 F Mo st a w):Inv E.P w0 F Mo (freezeOp E o st) a w:=by
 unfold freezeOp
 split
 ·rename_i f args ts _
  cases (((E.P.funcs[f]?).any fun fn=>fn.resultTypes.toList.all (isScalar E.P))&&!(isOwnArg E f 0 (args.toList.map (st.get E.P 0)) || E.hpF f))
  ·exact h.retireAll _
  ·exact h
 ·exact h.retireAll _
 ·exact h.retireAll _
 ·exact h.retireAll _
 ·split
  ·split
   ·split
    ·exact h.retireAll _
    ·exact h
   ·exact h
  ·exact h
 ·exact h
theorem Inv.retireOp (o:Oper)(h:Inv E.P w0 F Mo st a w):Inv E.P w0 F Mo (X.retireOp E o st) a w:=by
 unfold X.retireOp
 simp only
 split
 ·exact h.retire _
 ·exact h.retire _
 ·exact h.retire _
 ·exact h.retire _
 ·exact h.retire _
 ·exact (h.retire _).retireAll _
 ·rename_i f args ts _
  cases isOwnArg E f 0 (args.toList.map (st.get E.P 0))
  ·exact h
  ·cases ((handMap E st f 0 (args.toList.map (st.get E.P 0))).map (·.1)).contains (o.dst.getD 0)
   ·exact h.retire _
   ·exact h
 ·exact h

theorem retire_get_none {st:St}{d e:Nat}(h:Obs.get st.B e=none):Obs.get (st.retire d).B e=none:=by
 cases hg:Obs.get (st.retire d).B e with
 | none=>rfl
 | some o =>
  obtain ⟨_,o',ho⟩:=retire_get st d e o hg
  rw [h] at ho;cases ho
theorem retireAll_get_none:∀ (l:List Nat){st:St}{e:Nat},Obs.get st.B e=none∨(e ∈ l∧e < HL)→Obs.get (X.retireAll l st).B e=none
 | [],st,e,h=>by
  rcases h with h|h
  ·exact h
  ·simp at h
 | d :: l,st,e,h=>by
  refine retireAll_get_none l ?_
  rcases h with h|h
  ·exact .inl (retire_get_none h)
  ·rcases List.mem_cons.1 h.1 with h1|h1
   ·subst h1;exact .inl (retire_none st h.2)
   ·exact .inr ⟨h1,h.2⟩

theorem putAt_kin {P:Program}{t:TypeId}{v:SV}{ob ob':Ob}{q:List Stp}(h:ob.putAt P t v q=some ob')(u:TypeId)(s:SV)(hb:ob=.box u s):∃ s',ob'=.box u s':=by
 subst hb
 unfold Ob.putAt at h
 simp only at h
 cases hpv:v.pvT P t with
 | some x=>rw [hpv] at h;injection h with h;exact ⟨_,h.symm⟩
 | none =>
  rw [hpv] at h
  simp only at h
  obtain ⟨_,h⟩:=cond_some h
  injection h with h;exact ⟨_,h.symm⟩

theorem e_store (hL:laidOutB E.P=true)(hI:Inv E.P w0 F Mo st a w){o:Oper}{t:TypeId}{x y:Operand}(ho:o.op=.store t x y)(h:opE0 E o st K=some r):EOk E w0 F Mo o K r a w:=by
 obtain ⟨hdef,β,hR,hk⟩:=hI
 have hx:=get_sound hR 0 x
 have hy:=get_sound hR t y
 unfold opE0 at h
 rw [ho] at h
 simp only at h
 generalize st.get E.P 0 x=sx at h hx
 generalize st.get E.P t y=sy at h hy
 generalize hvx:a.eval x=vx at hx
 generalize hvy:a.eval y=vy at hy
 cases hx with
 | @ptr d q b c off ob hob hβ hoff =>
  simp only at h
  rw [hob] at h
  simp only at h
  obtain ⟨htt,h⟩:=cond_some h
  have htt:ob.typAt E.P q=some t:=by simpa using htt
  cases hp:ob.putAt E.P t sy q with
  | none=>rw [hp] at h;cases h
  | some ob' =>
   rw [hp] at h
   simp only at h
   have hRO:=hR.ob d ob hob
   have hdl:=lo_off hob hoff
   have fin:∀ {cs xs:List Value}{e:TypeId}{fr:Nat × Nat},E.P.underlying t≠none→w.heap[b]?=some (.cells cs.toArray e fr)→(∀ o,o < cs.length→fr.1=fr.2∨cs.length≤fr.1)→Pack E.P t vy xs→(∀ c ∈ xs,c.oneCell'=true)→xs.length=E.P.cellsOf t→off+xs.length≤cs.length →
     (∀ q off,offO E.P ob q=some off→offO E.P ob' q=some off)→(∀ e l,ob=.row e l→∃ l',ob'=.row e l'∧l'.length=l.length) →
     (∀ w',w'.heap[b]?=some (.cells (splice cs off xs).toArray e fr)→Same E.P w (Mut Mo β st.B) β st.B w' (Mut Mo β (Obs.ins d ob' (Obs.del d st.B))) β (Obs.ins d ob' (Obs.del d st.B))→RO E.P w' (Mut Mo β (Obs.ins d ob' (Obs.del d st.B))) β (Obs.ins d ob' (Obs.del d st.B)) d ob')→EOk E w0 F Mo o K r a w:=by
    intro cs xs e fr hu hb hfr hpk h1 hl hin hq hrow hro
    obtain ⟨dd,hu⟩:=Option.ne_none_iff_exists'.1 hu
    have hrun:(execOp a.eval o).run E.P w=.ok .skip (w.setCells b off xs):=by
     unfold execOp;rw [ho]
     simp only [Instr.storeAt,hvx,hvy,Instr.sureAddr]
     rw [Sem.run_bind,Sem.run_bind,Sem.run_pure,Result.andThen_ok,run_storeVar hu hpk h1 hl hb hin hfr];rfl
    have hblk:=setCells_block b xs off w cs e fr hb (by omega)
    have hsame:=same_store (w':=w.setCells b off xs) hR hdl hob hβ (fun x hx=>setCells_other b x hx xs off w) hq hrow
    have hR':=hR.store (w':=w.setCells b off xs) hdl hob hβ (setCells_size b xs off w) (fun x hx=>setCells_other b x hx xs off w) hq hrow (hro _ hblk hsame)
    have hk':Kp w0 F β (Obs.ins d ob' (Obs.del d st.B)) (w.setCells b off xs):=by
     refine hk.store hob hβ (by rw [setCells_size];exact Nat.le_refl _) (fun x hx _=>setCells_other b x hx xs off w) (fun y hy=>.inl ?_) (fun n o' hn=>⟨rfl,?_⟩) (setCells_os b xs off w).1 (setCells_os b xs off w).2 hsame.hp
     ·obtain ⟨e',o',c',h1,h2⟩:=hy
      rw [Obs.get_ins hdl] at h1
      by_cases hde:d=e'
      ·subst hde;exact ⟨d,ob,c',hob,h2⟩
      ·rw [if_neg hde,Obs.get_del hdl,if_neg hde] at h1
       exact ⟨e',o',c',h1,h2⟩
     ·rw [Obs.get_ins hdl] at hn
      by_cases hde:d=n
      ·subst hde
       rw [if_pos rfl] at hn;injection hn with hn;subst hn
       exact ⟨ob,hob,putAt_kin hp⟩
      ·rw [if_neg hde,Obs.get_del hdl,if_neg hde] at hn
       exact ⟨o',hn,fun t s h=>⟨s,h⟩⟩
    refine ⟨_,h,fun next Q hn=>?_⟩
    unfold Oper.wp
    rw [hrun,Oper.upon_skip]
    exact hn _ _ (Inv.put hdef ⟨β,hR',hk',.undef⟩ o.dst)
   have hself:Obs.get (Obs.ins d ob' (Obs.del d st.B)) d=some ob':=by rw [Obs.get_ins hdl,if_pos rfl]
   cases ob with
   | map _ _=>cases hp
   | hp _=>cases hp
   | hvar _ _=>cases hp
   | hrow _ _=>cases hp
   | box u s =>
    obtain ⟨b',c',cs,v,fr,h1,h2,h3,h4,h5,h6,h7,h8,h9⟩:=hRO
    rw [h1] at hβ;injection hβ with hβ;injection hβ with hb hc;subst hb;subst hc
    have hin:=off_in hL q h9 htt hoff
    unfold Ob.putAt at hp
    simp only at hp
    cases hpv:sy.pvT E.P t with
    | some px =>
     rw [hpv] at hp
     simp only [Option.some.injEq] at hp
     subst hp
     obtain ⟨xs,x1,x2⟩:=hy.pvT hpv
     have hxl:=x2.size hL hin.1
     have hx1:=x2.one hL
     obtain ⟨dd,hdd⟩:=x2.desc
     refine fin (by rw [hdd];simp) h2 h3 x1 hx1 hxl (by omega) (fun q off h=>h) (fun e l h=>by cases h) (fun w' hw' hsame=>?_)
     have x2':=x2.mono hsame.st
     obtain ⟨v2,m1,m2,m3⟩:=RS.putL hL (lf:=ofPV E.P t px) (px:=some px) (RS.ofPV x1 x2') (isT_ofPV x2') x1 hxl hx1 (fun x hx=>by injection hx with hx;subst hx;exact x2') q h9 (h7.mono hsame) h6 h4 h5 h8 htt hoff
     exact ⟨_,_,_,v2,fr,h1,hw',fun o ho=>by rw [splice_len (by omega)] at ho ⊢;exact h3 o ho,by rw [splice_len (by omega)];exact h4,fun c hc=>by
      rcases mem_splice hc with hc|hc
      ·exact h5 c hc
      ·exact hx1 c hc,m2,m1,m3,h9⟩
    | none =>
     rw [hpv] at hp
     simp only at hp
     obtain ⟨hh0,hp⟩:=cond_some hp
     simp only [Option.some.injEq] at hp
     subst hp
     by_cases hhv:∃ u' p',sy=.hval u' p'
     ·obtain ⟨u',p',rfl⟩:=hhv
      have hut:u'=t:=by simpa [SV.isHandle,SV.isWhole] using hh0
      subst hut
      have hy':=hy
      cases hy with
      | @hval _ _ _ xs x1 x2 =>
       have hxl:=x2.size hL hin.1
       have hx1:=x2.one hL
       obtain ⟨dd,hdd⟩:=x2.desc
       refine fin (by rw [hdd];simp) h2 h3 x1 hx1 hxl (by omega) (fun q off h=>h) (fun e l h=>by cases h) (fun w' hw' hsame=>?_)
       obtain ⟨v2,m1,m2,m3⟩:=RS.putL hL (lf:=.hval u' p') (px:=none) (hy'.mono hsame) (.inr (.inl (by simp [SV.isHandle]))) x1 hxl hx1 (fun x hx=>by cases hx) q h9 (h7.mono hsame) h6 h4 h5 h8 htt hoff
       exact ⟨_,_,_,v2,fr,h1,hw',fun o ho=>by rw [splice_len (by omega)] at ho ⊢;exact h3 o ho,by rw [splice_len (by omega)];exact h4,fun c hc=>by
        rcases mem_splice hc with hc|hc
        ·exact h5 c hc
        ·exact hx1 c hc,m2,m1,m3,h9⟩
     rcases (Bool.or_eq_true _ _).mp hh0 with hh|hw0
     ·have hag:isAggT E.P t=false∧kindOk (E.P.underlying t)=true∧E.P.underlying t≠none:=by
       cases sy with
       | own u' d' =>
        have hut:u'=t:=by simpa [SV.isHandle] using hh
        subst hut
        cases hy with
        | own hu=>simp [isAggT,hu,kindOk]
        | ownNil hu=>simp [isAggT,hu,kindOk]
       | mp u' d' =>
        have hut:u'=t:=by simpa [SV.isHandle] using hh
        subst hut
        cases hy with
        | mp hu=>simp [isAggT,hu,kindOk]
       | ptr e q' =>
        simp only [SV.isHandle] at hh
        cases hu:E.P.underlying t with
        | none=>rw [hu] at hh;cases hh
        | some dd =>
         rw [hu] at hh
         cases dd with
         | pointer _=>simp [isAggT,hu,kindOk]
         | _=>cases hh
       | fn f l =>
        simp only [SV.isHandle] at hh
        cases hu:E.P.underlying t with
        | none=>rw [hu] at hh;cases hh
        | some dd =>
         rw [hu] at hh
         cases dd with
         | func _ _ _=>simp [isAggT,hu,kindOk]
         | _=>cases hh
       | hval u' p'=>exact absurd ⟨_,_,rfl⟩ hhv
       | _=>cases hh
      have hxl:[vy].length=E.P.cellsOf t:=by rw [cells1 hL hin.1 hag.2.1 hag.1];rfl
      have hx1:∀ c ∈ [vy],c.oneCell'=true:=by
       intro c hc
       simp only [List.mem_singleton] at hc
       subst hc
       cases sy with
       | own u' d'=>cases hy <;> rfl
       | mp u' d'=>cases hy;rfl
       | ptr e q'=>cases hy;rfl
       | fn f l=>cases hy;rfl
       | hval u' p'=>exact absurd ⟨_,_,rfl⟩ hhv
       | _=>cases hh
      refine fin hag.2.2 h2 h3 (pack1 hag.1) hx1 hxl (by omega) (fun q off h=>h) (fun e l h=>by cases h) (fun w' hw' hsame=>?_)
      obtain ⟨v2,m1,m2,m3⟩:=RS.putL hL (lf:=sy) (px:=none) (hy.mono hsame) (.inr (.inl hh)) (pack1 hag.1) hxl hx1 (fun x hx=>by cases hx) q h9 (h7.mono hsame) h6 h4 h5 h8 htt hoff
      exact ⟨_,_,_,v2,fr,h1,hw',fun o ho=>by rw [splice_len (by omega)] at ho ⊢;exact h3 o ho,by rw [splice_len (by omega)];exact h4,fun c hc=>by
       rcases mem_splice hc with hc|hc
       ·exact h5 c hc
       ·exact hx1 c hc,m2,m1,m3,h9⟩
     ·cases sy with
      | agg u' l' =>
       have hut:u'=t:=by simpa [SV.isWhole] using hw0
       subst hut
       cases hy with
       | @agg _ fs _ xs vs hu ht' hl hc h1' hf hs =>
        have hy':RS E.P w (Mut Mo β st.B) β st.B (.agg u' l') (.agg xs.toArray):=.agg hu ht' hl hc h1' hf hs
        have hpk:Pack E.P u' (.agg xs.toArray) xs:=by unfold Pack;rw [if_pos (isAggT_struct hu)]
        refine fin (by rw [hu];simp) h2 h3 hpk h1' hc (by omega) (fun q off h=>h) (fun e l h=>by cases h) (fun w' hw' hsame=>?_)
        obtain ⟨v2,m1,m2,m3⟩:=RS.putL hL (lf:=.agg u' l') (px:=none) (hy'.mono hsame) (.inr (.inr (.inr ⟨_,rfl⟩))) hpk hc h1' (fun x hx=>by cases hx) q h9 (h7.mono hsame) h6 h4 h5 h8 htt hoff
        exact ⟨_,_,_,v2,fr,h1,hw',fun o ho=>by rw [splice_len (by omega)] at ho ⊢;exact h3 o ho,by rw [splice_len (by omega)];exact h4,fun c hc2=>by
         rcases mem_splice hc2 with hc2|hc2
         ·exact h5 c hc2
         ·exact h1' c hc2,m2,m1,m3,h9⟩
      | _=>cases hw0
   | row e l =>
    obtain ⟨hz,hRO⟩:=hRO
    cases q with
    | nil=>cases hoff
    | cons s q =>
     cases s with
     | el i =>
      simp only [offO] at hoff
      by_cases hi:0≤i∧i < l.length
      ·rw [if_pos hi] at hoff
       cases hoq:offT E.P e q with
       | none=>rw [hoq] at hoff;cases hoff
       | some o' =>
        rw [hoq] at hoff
        replace hoff:i.toNat * E.P.cellsOf e+o'=off:=by injection hoff
        subst hoff
        have htq:typT E.P e q=some t:=htt
        have hin:=off_in hL q hz htq hoq
        have hil:i.toNat < l.length:=by omega
        unfold Ob.putAt at hp
        simp only at hp
        cases hpv:sy.pvT E.P t with
        | none=>rw [hpv] at hp;cases hp
        | some px =>
         rw [hpv] at hp
         simp only [Option.map_some,Option.some.injEq] at hp
         subst hp
         obtain ⟨xs,x1,x2⟩:=hy.pvT hpv
         have hxl:=x2.size hL hin.1
         have hx1:=x2.one hL
         obtain ⟨dd,hdd⟩:=x2.desc
         rcases hRO with ⟨h1,_⟩|⟨b',c',cs,fr,h1,h2,h3,h4,h5,h6,h7,h8⟩
         ·rw [h1] at hβ;cases hβ
         ·rw [h1] at hβ;injection hβ with hβ;injection hβ with hb hc;subst hb;subst hc
          have hg:=List.getElem?_eq_getElem hil
          have hw:i.toNat * E.P.cellsOf e+E.P.cellsOf e≤cs.length:=by
           rw [h6];exact mul_within (by omega)
          refine fin (by rw [hdd];simp) h2 h3 x1 hx1 hxl (by omega) (fun q2 off2 hq2=>?_) (fun e' l' he=>?_) (fun w' hw' hsame=>?_)
          ·cases q2 with
           | nil=>cases hq2
           | cons s2 q2 =>
            cases s2 with
            | el i2=>simpa only [offO,List.length_set] using hq2
            | _=>cases hq2
          ·injection he with he1 he2;subst he1;subst he2
           exact ⟨_,rfl,by simp⟩
          ·have x2':=x2.mono hsame.st
           have hold:=(h8 i.toNat _ hg).mono hsame.st
           change Rd E.P w' _ e l[i.toNat] (sub cs (i.toNat * E.P.cellsOf e) (E.P.cellsOf e)) at hold
           have hput:=hold.put hL q hz htq hoq x2'
           refine ⟨hz,.inr ⟨_,_,_,fr,h1,hw',fun o ho=>by rw [splice_len (by omega)] at ho ⊢;exact h3 o ho,by simpa using h4,h5,by rw [splice_len (by omega)];exact h6,fun c hc=>?_,fun j p hj=>?_⟩⟩
           ·rcases mem_splice hc with hc|hc
            ·exact h7 c hc
            ·exact hx1 c hc
           ·rw [List.getElem?_set] at hj
            change Rd E.P w' _ e p (sub (splice cs (i.toNat * E.P.cellsOf e+o') xs) (j * E.P.cellsOf e) (E.P.cellsOf e))
            by_cases hij:i.toNat=j
            ·subst hij
             rw [if_pos rfl,if_pos hil,getD_of hg] at hj
             injection hj with hj;subst hj
             rw [sub_splice_in (by omega) (by omega)]
             exact hput
            ·rw [if_neg hij] at hj
             rw [sub_splice_out (by omega) (by have:=mul_apart (n:=E.P.cellsOf e) hij;omega)]
             exact (h8 j p hj).mono hsame.st
      ·rw [if_neg hi] at hoff;cases hoff
     | _=>cases hoff
 | _=>cases h

theorem agg_sameBits {q:IntKind}:∀ (l:List Value),(∀ c ∈ l,∃ x,c=.int q x)→(List.zip l l).all (fun (x,y)=>Instr.sameBits 9999 x y)=true
 | [],_=>rfl
 | c :: l,h=>by
  obtain ⟨x,rfl⟩:=h c (by simp)
  rw [List.zip_cons_cons,List.all_cons,agg_sameBits l fun y hy=>h y (by simp [hy])]
  simp [Instr.sameBits]
theorem keyStays {P:Program}{w:World}{q:IntKind}{cs:List Value}(h:∀ c ∈ cs,∃ x,c=.int q x):(Instr.keyThatStays (.agg cs.toArray) (.agg cs.toArray)).run P w=.ok (.agg cs.toArray) w:=by
 have hs:Instr.sameBits 10000 (.agg cs.toArray) (.agg cs.toArray)=true:=by
  show (cs.toArray.size==cs.toArray.size&&(cs.toArray.toList.zip cs.toArray.toList).all fun (x,y)=>Instr.sameBits 9999 x y)=true
  rw [beq_self_eq_true,Bool.true_and]
  exact agg_sameBits cs h
 unfold Instr.keyThatStays
 rw [if_pos hs];rfl
theorem key_eq {P:Program}(hL:laidOutB P=true){w:World}{M:Nat→Prop}{k e:TypeId}{n:Nat}{q:IntKind}(hu:P.underlying k=some (.array n e))(he:P.underlying e=some (.int q))(hk:k < P.types.size)
  {p p':PV}{cs cs':List Value}{v v':Value}(hr:Rd P w M k p cs)(hv:Pack P k v cs)(hr':Rd P w M k p' cs')(hv':Pack P k v' cs')(hb:PV.beq p p'=true):v'=v∧v=.agg cs.toArray∧∀ c ∈ cs,∃ x,c=.int q x:=by
 obtain ⟨rfl,l,rfl,h2,h3,h4⟩:=key_facts hL hu he hk hr hv
 obtain ⟨rfl,l',rfl,g2,g3,g4⟩:=key_facts hL hu he hk hr' hv'
 have hbs:PV.beqs l l'=true:=hb
 have eqs:∀ (l l':List PV),PV.beqs l l'=true→∀ (i:Nat)(x y:Int),l[i]?=some (.int x)→l'[i]?=some (.int y)→x=y:=by
  intro l
  induction l with
  | nil=>intro l' _ i x y h;simp at h
  | cons a l ih =>
   intro l' hb i x y hx hy
   cases l' with
   | nil=>simp at hy
   | cons a' l' =>
    have hb:(PV.beq a a'&&PV.beqs l l')=true:=hb
    rw [Bool.and_eq_true] at hb
    cases i with
    | zero =>
     have hx:a=.int x:=by simpa using hx
     have hy:a'=.int y:=by simpa using hy
     subst hx;subst hy
     have:decide (x=y)=true:=hb.1
     simpa using this
    | succ i=>exact ih l' hb.2 i x y (by simpa using hx) (by simpa using hy)
 have hcs:cs'=cs:=by
  apply List.ext_getElem?
  intro i
  by_cases hi:i < n
  ·obtain ⟨x,x1,x2⟩:=h4 i hi
   obtain ⟨y,y1,y2⟩:=g4 i hi
   rw [x2,y2,eqs l l' hbs i x y x1 y1]
  ·rw [List.getElem?_eq_none (by omega),List.getElem?_eq_none (by omega)]
 refine ⟨by rw [hcs],rfl,fun c hc=>?_⟩
 obtain ⟨i,hi⟩:=List.getElem?_of_mem hc
 have hil:=get_lt hi
 obtain ⟨x,_,x2⟩:=h4 i (by omega)
 rw [hi] at x2;injection x2 with x2
 exact ⟨x,x2⟩
theorem e_mapUpdate (hL:laidOutB E.P=true)(hI:Inv E.P w0 F Mo st a w){o:Oper}{t:TypeId}{m i y:Operand}(ho:o.op=.mapUpdate t m i y)(h:opE0 E o st K=some r):EOk E w0 F Mo o K r a w:=by
 obtain ⟨hdef,β,hR,hk⟩:=hI
 have hx:=get_sound hR t m
 unfold opE0 at h
 rw [ho] at h
 simp only at h
 split at h
 ·rename_i k e u0 d hu hg
  split at h
  ·rename_i t' l pk pv hob hpk hpv
   obtain ⟨hc,hK⟩:=cond_some h
   clear h
   simp only [Bool.and_eq_true,beq_iff_eq] at hc
   obtain ⟨htt,hko⟩:=hc
   rw [htt] at hob
   rw [hg] at hx
   obtain ⟨ck,c1,c2⟩:=(get_sound hR k i).pvT hpk
   obtain ⟨cv,d1,d2⟩:=(get_sound hR e y).pvT hpv
   obtain ⟨n,ke,q,k1,k2,k3,k4⟩:=keyOk_spec hko
   generalize hvx:a.eval m=vx at hx
   generalize hvi:a.eval i=vi at c1
   generalize hvy:a.eval y=vy at d1
   cases hx with
   | @mp _ _ k' e' b c ob hu' hob' hβ _ =>
    rw [hob] at hob';injection hob' with hob';subst hob'
    obtain ⟨b',c',k2',e2,es,clock,h1,h2,h3,h4,h5⟩:=hR.ob d _ hob
    rw [h1] at hβ;injection hβ with hβ;injection hβ with hb hc;subst hb;subst hc
    rw [hu] at h3;injection h3 with h3;injection h3 with e1 e2';subst e1;subst e2'
    have hents:Ents E.P w (Mut Mo β st.B) k e es.toList l:=⟨by simpa using h4,fun i x hx=>h5 i x (by simpa using hx)⟩
    have hcheck:=key_check (w:=w) hL k1 k2 k4 c2 c1 false
    have fin:∀ (es':Array MapEntry)(clock':Nat)(l':List PV),mput pk pv l=l'→(Instr.mapUpdate t (.map (some b')) vi vy).run E.P w=.ok () { w with heap:=w.heap.setIfInBounds b' (.map es' clock') } →
      Ents E.P w (Mut Mo β st.B) k e es'.toList l'→EOk E w0 F Mo o K r a w:=by
     intro es' clock' l' hl' hrun hE
     rw [hl'] at hK
     have hblt:b' < w.heap.size:=hR.lt d _ b' c' hob h1
     have hdl:=lo_map hob
     generalize hw':({ w with heap:=w.heap.setIfInBounds b' (.map es' clock') }:World)=w' at hrun
     have hsz:w'.heap.size=w.heap.size:=by rw [←hw'];simp
     have hold:∀ x,x≠b'→w'.heap[x]?=w.heap[x]?:=fun x hx=>by rw [←hw'];simp [Array.getElem?_setIfInBounds,Ne.symm hx]
     have hat:w'.heap[b']?=some (.map es' clock'):=by rw [←hw'];simp [Array.getElem?_setIfInBounds,hblt]
     have hq:∀ q off,offO E.P (.map t l) q=some off→offO E.P (.map t l') q=some off:=fun q off h=>by cases h
     have hrow:∀ e2 l2,Ob.map t l=.row e2 l2→∃ l3,Ob.map t l'=.row e2 l3∧l3.length=l2.length:=fun e2 l2 h=>by cases h
     have hsame:=same_store (w':=w') hR hdl hob h1 hold hq hrow
     have hR':=hR.store (w':=w') hdl hob h1 hsz hold hq hrow ⟨b',c',k,e,es',clock',h1,hat,hu,by simpa using hE.1,fun i x hx=>by
      obtain ⟨pk',pv',ck',cv',g1,g2,g3,g4,g5⟩:=hE.2 i x (by simpa using hx)
      exact ⟨pk',pv',ck',cv',g1,g2,g3.mono hsame.st,g4,g5.mono hsame.st⟩⟩
     have hk':Kp w0 F β (Obs.ins d (.map t l') (Obs.del d st.B)) w':=by
      refine hk.store hob h1 (by rw [hsz];exact Nat.le_refl _) (fun x hx _=>hold x hx) (fun y hy=>.inl ?_) (fun n o' hn=>⟨rfl,?_⟩) (by rw [←hw']) (by rw [←hw']) hsame.hp
      ·obtain ⟨e',o',c',h1,h2⟩:=hy
       rw [Obs.get_ins hdl] at h1
       by_cases hde:d=e'
       ·subst hde;exact ⟨d,_,c',hob,h2⟩
       ·rw [if_neg hde,Obs.get_del hdl,if_neg hde] at h1
        exact ⟨e',o',c',h1,h2⟩
      ·rw [Obs.get_ins hdl] at hn
       by_cases hde:d=n
       ·subst hde
        exact ⟨_,hob,fun t s h=>by cases h⟩
       ·rw [if_neg hde,Obs.get_del hdl,if_neg hde] at hn
        exact ⟨o',hn,fun t s h=>⟨s,h⟩⟩
     refine ⟨_,hK,fun next Q hn=>?_⟩
     have hrun2:(execOp a.eval o).run E.P w=.ok .skip w':=by
      unfold execOp;rw [ho]
      simp only [hvx,hvi,hvy]
      rw [Sem.run_bind,hrun];rfl
     unfold Oper.wp
     rw [hrun2,Oper.upon_skip]
     exact hn _ _ (Inv.put hdef ⟨β,hR',hk',.undef⟩ o.dst)
    rcases run_findAsking (e:=e) k3 c1 c2 es.toList l 0 hents with ⟨a1,a2,a3⟩|⟨j,x',pk',pv',a1,a2,a3,a4,a5,a6⟩
    ·refine fin (es.push { key:=vi,val:=vy,born:=clock }) (clock+1) _ (a2 pv) ?_ ⟨by simp [hents.1],fun i x hx=>?_⟩
     ·unfold Instr.mapUpdate
      simp only [Sem.run_bind,run_underlying hu,Result.andThen_ok,MapKept.run_getObj_map h2,hcheck,run_findKey_arr k1 _ a3,MapKept.run_setObj_map _ h2]
     ·rw [Array.toList_push] at hx
      by_cases hi:i < es.toList.length
      ·rw [List.getElem?_append_left hi] at hx
       obtain ⟨g0,g1,g2,g3,g4,g5⟩:=hents.2 i x hx
       exact ⟨g0,g1,g2,g3,by rw [List.getElem?_append_left (by rw [hents.1];exact hi)];exact g4,g5⟩
      ·have hil:=get_lt hx
       simp only [List.length_append,List.length_cons,List.length_nil] at hil
       have hie:i=es.toList.length:=by omega
       subst hie
       rw [List.getElem?_append_right (Nat.le_refl _),Nat.sub_self] at hx
       have hx:{ key:=vi,val:=vy,born:=clock }=x:=by simpa using hx
       subst hx
       exact ⟨pk,pv,ck,cv,by rw [←hents.1,List.getElem?_append_right (Nat.le_refl _),Nat.sub_self];rfl,c1,c2,d1,d2⟩
    ·obtain ⟨pk2,pv2,ck2,cv2,b1,b2,b3,b4,b5⟩:=hents.2 j x' a1
     rw [a2] at b1;injection b1 with b1;injection b1 with b1;injection b1 with b1 b6;subst b1
     obtain ⟨ke1,ke2,ke3⟩:=key_eq hL k1 k2 k4 c2 c1 b3 b2 a3
     rw [Nat.zero_add] at a6
     refine fin (es.modify j fun e=>{ e with key:=vi,val:=vy }) clock _ (a5 pv) ?_ ⟨by simp [hents.1],fun i x hx=>?_⟩
     ·have hxe:(es[j]?.map (·.key)).getD vi=vi:=by
       rw [show es[j]?=some x' by simpa using a1];exact ke1
      have hst:(Instr.keyThatStays vi vi).run E.P w=.ok vi w:=by rw [ke2];exact keyStays ke3
      unfold Instr.mapUpdate
      simp only [Sem.run_bind,run_underlying hu,Result.andThen_ok,MapKept.run_getObj_map h2,hcheck,run_findKey_arr k1 _ a6,hxe,hst,MapKept.run_setObj_map _ h2]
     ·have hx2:(es.modify j fun e=>{ e with key:=vi,val:=vy })[i]?=some x:=by rw [←Array.getElem?_toList];exact hx
      rw [Array.getElem?_modify] at hx2
      by_cases hij:j=i
      ·subst hij
       rw [if_pos rfl,show es[j]?=some x' by simpa using a1] at hx2
       have hx2:({ x' with key:=vi,val:=vy }:MapEntry)=x:=by simpa using hx2
       subst hx2
       exact ⟨pk,pv,ck,cv,by rw [List.getElem?_set_self (get_lt a2)],c1,c2,d1,d2⟩
      ·rw [if_neg hij] at hx2
       obtain ⟨g0,g1,g2,g3,g4,g5⟩:=hents.2 i x (by simpa using hx2)
       exact ⟨g0,g1,g2,g3,by rw [List.getElem?_set_ne hij];exact g4,g5⟩
  ·cases h
 ·cases h

end
end Go.X
namespace Go.X
open Go
section
variable {E : Env} {w0 : World} {F : Foot} {Mo : Nat → Prop} {st : St} {K : St → Option Out} {r : Out} {a : Act} {w : World}

theorem appended_src (hL:laidOutB E.P=true) {β:Beta}(hR:Rel E.P Mo β st.T st.B a.tmps.toList w){e xt:TypeId}(he:e < E.P.types.size){x:SV}{v:Value}{m:List PV}(hs:RS E.P w (Mut Mo β st.B) β st.B x v)(h:appended E.P st e xt x=some m) :
  ∃ news,Src E.P (E.P.cellsOf e) xt v m.length news w∧Rows E.P w (Mut Mo β st.B) e m news:=by
 unfold appended at h
 cases hu:E.P.underlying xt with
 | none=>rw [hu] at h;cases h
 | some dd =>
  rw [hu] at h
  cases dd with
  | string =>
   cases x with
   | str l =>
    simp only at h
    cases hue:E.P.underlying e with
    | none=>rw [hue] at h;cases h
    | some de =>
     rw [hue] at h
     split at h
     ·rename_i hde
      injection hde with hde;subst hde
      injection h with h;subst h
      generalize hsx:SV.str l=sx at hs
      cases hs with
      | @str s hw =>
       injection hsx with hsx
       subst hsx
       have hce:E.P.cellsOf e=1:=cells1 hL he (by rw [hue];rfl) (by simp [isAggT,hue])
       have hrow:byteCells s=(bytesRow s s.size).toList:=by
        unfold byteCells bytesRow
        simp
       refine ⟨byteCells s,?_,?_⟩
       ·rw [hce,List.length_map,chars_len]
        exact Src.ofString w hu s
       ·rw [hrow]
        exact (bytesRow_rows hL hue he s s.size (Nat.le_refl _)).1
      | _=>cases hsx
     ·cases h
   | _=>cases h
  | slice e' =>
   simp only at h
   obtain ⟨hee,h⟩:=cond_some h
   have hee:e'=e:=by simpa using hee
   subst hee
   rcases elems_sound hR hs h with ⟨rfl,rfl⟩|⟨ad,c,cs,rfl,hlc,hcm,hcell,hrd⟩
   ·exact ⟨[],Src.ofNil w hu 0,fun i p hi=>by simp at hi⟩
   ·-- the cells,one behind the other
    let news:List Value:=(List.range (m.length * E.P.cellsOf e')).map fun k=>((cs (k / E.P.cellsOf e')).getD (k % E.P.cellsOf e') undef)
    have hnl:news.length=m.length * E.P.cellsOf e':=by simp [news]
    have hng:∀ i j,i < m.length→j < E.P.cellsOf e'→news[i * E.P.cellsOf e'+j]?=(cs i)[j]?:=by
     intro i j hi hj
     have hb:=mul_within (n:=E.P.cellsOf e') hi
     have hcl:=(hcell i hi).1
     show ((List.range (m.length * E.P.cellsOf e')).map fun k=>((cs (k / E.P.cellsOf e')).getD (k % E.P.cellsOf e') undef))[i * E.P.cellsOf e'+j]?=_
     rw [List.getElem?_map,List.getElem?_range (by omega)]
     have h1:(i * E.P.cellsOf e'+j) / E.P.cellsOf e'=i:=by
      rw [Nat.mul_comm,Nat.mul_add_div (by omega),Nat.div_eq_of_lt hj,Nat.add_zero]
     have h2:(i * E.P.cellsOf e'+j) % E.P.cellsOf e'=j:=by
      rw [Nat.mul_comm,Nat.mul_add_mod,Nat.mod_eq_of_lt hj]
     simp only [Option.map_some,h1,h2]
     rw [List.getElem?_eq_getElem (by omega),List.getD_eq_getElem?_getD,List.getElem?_eq_getElem (by omega)];rfl
    have hsub:∀ i,i < m.length→sub news (i * E.P.cellsOf e') (E.P.cellsOf e')=cs i:=by
     intro i hi
     apply List.ext_getElem?
     intro j
     rw [sub_get]
     by_cases hj:j < E.P.cellsOf e'
     ·rw [if_pos hj,hng i j hi hj]
     ·rw [if_neg hj,List.getElem?_eq_none (by rw [(hcell i hi).1];omega)]
    have split:∀ k x,news[k]?=some x→∃ i j,i < m.length∧j < E.P.cellsOf e'∧k=i * E.P.cellsOf e'+j∧(cs i)[j]?=some x:=by
     intro k x hk
     have hkl:=get_lt hk
     rw [hnl] at hkl
     have h0:0 < E.P.cellsOf e':=by
      rcases Nat.eq_zero_or_pos (E.P.cellsOf e') with h|h
      ·rw [h] at hkl;simp at hkl
      ·exact h
     have hi:k / E.P.cellsOf e' < m.length:=(Nat.div_lt_iff_lt_mul h0).2 hkl
     have hj:=Nat.mod_lt k h0
     have hd:k=k / E.P.cellsOf e' * E.P.cellsOf e'+k % E.P.cellsOf e':=by
      have:=Nat.div_add_mod k (E.P.cellsOf e');rw [Nat.mul_comm] at this;omega
     refine ⟨_,_,hi,hj,hd,?_⟩
     rw [←hng _ _ hi hj,←hd];exact hk
    refine ⟨news,Src.ofSlice w hu ad m.length c news hnl (fun k x hk=>?_) (fun x hx=>?_),fun i p hi=>?_⟩
    ·obtain ⟨i,j,hi,hj,rfl,hx⟩:=split k x hk
     have:=(hcell i hi).2 j x hx
     rwa [add_add] at this
    ·obtain ⟨k,hk⟩:=List.getElem?_of_mem hx
     obtain ⟨i,j,hi,hj,rfl,hx⟩:=split k x hk
     have hg:=List.getElem?_eq_getElem hi
     exact (hrd i _ hg).one hL x (List.mem_of_getElem? hx)
    ·rw [hsub i (get_lt hi)]
     exact hrd i p hi
  | _=>cases h

theorem Rows.app {P:Program}{w:World}{M:Nat→Prop}{e:TypeId}{l m:List PV}{cs news rest:List Value}(hl:Rows P w M e l cs)(hm:Rows P w M e m news)(hcl:l.length * P.cellsOf e≤cs.length)(hnl:news.length=m.length * P.cellsOf e) :
  Rows P w M e (l++m) (cs.take (l.length * P.cellsOf e)++(news++rest)):=by
 intro i p hi
 by_cases h:i < l.length
 ·rw [List.getElem?_append_left h] at hi
  have hb:=mul_within (n:=P.cellsOf e) h
  have:sub (cs.take (l.length * P.cellsOf e)++(news++rest)) (i * P.cellsOf e) (P.cellsOf e)=sub cs (i * P.cellsOf e) (P.cellsOf e):=by
   apply List.ext_getElem?
   intro j
   rw [sub_get,sub_get]
   by_cases hj:j < P.cellsOf e
   ·rw [if_pos hj,if_pos hj,List.getElem?_append_left (by simp;omega),List.getElem?_take_of_lt (by omega)]
   ·rw [if_neg hj,if_neg hj]
  rw [this];exact hl i p hi
 ·rw [List.getElem?_append_right (by omega)] at hi
  have hil:=get_lt hi
  have hb:=mul_within (n:=P.cellsOf e) hil
  have hi2:i * P.cellsOf e=l.length * P.cellsOf e+(i - l.length) * P.cellsOf e:=by
   rw [←Nat.add_mul];congr 1;omega
  have:sub (cs.take (l.length * P.cellsOf e)++(news++rest)) (i * P.cellsOf e) (P.cellsOf e)=sub news ((i - l.length) * P.cellsOf e) (P.cellsOf e):=by
   apply List.ext_getElem?
   intro j
   rw [sub_get,sub_get]
   by_cases hj:j < P.cellsOf e
   ·rw [if_pos hj,if_pos hj,List.getElem?_append_right (by simp;omega),List.getElem?_append_left (by simp;omega)]
    congr 1;simp;omega
   ·rw [if_neg hj,if_neg hj]
  rw [this];exact hm _ p hi

theorem zero_one {P:Program}(hL:laidOutB P=true){e:TypeId}(he:e < P.types.size){z:PV}{zcs:List Value}{zv:Value}(hz:pvC P 10 e zcs=some z)(h4:zv.cells=zcs.toArray)(n:Nat) :
  (∀ c ∈ (Builtin.zeroCells zv.cells n).toList,c.oneCell'=true)∧(Builtin.zeroCells zv.cells n).size=n * P.cellsOf e:=by
 have hr:Rd P default (fun _=>True) e z zcs:=pvC_sound 10 hz
 have hl:=hr.size hL he
 have hs:(Builtin.zeroCells zv.cells n).size=n * P.cellsOf e:=by rw [size_zeroCells,h4];simp [hl]
 refine ⟨fun c hc=>?_,hs⟩
 obtain ⟨k,hk⟩:=List.getElem?_of_mem hc
 have hkl:=get_lt hk
 rw [Array.length_toList,hs] at hkl
 have h0:0 < P.cellsOf e:=by
  rcases Nat.eq_zero_or_pos (P.cellsOf e) with h|h
  ·rw [h] at hkl;simp at hkl
  ·exact h
 have hm:=Nat.mod_lt k h0
 rw [Array.getElem?_toList] at hk
 unfold Builtin.zeroCells at hk
 rw [Array.getElem?_map,Array.getElem?_range,h4] at hk
 simp only [List.size_toArray,hl] at hk
 rw [if_pos hkl] at hk
 simp only [Option.map_some,Option.some.injEq] at hk
 rw [getElem!_pos _ _ (by simp;omega)] at hk
 subst hk
 refine hr.one hL _ ?_
 simp

end
end Go.X
namespace Go.X
open Go
section
variable {E : Env} {w0 : World} {F : Foot} {Mo : Nat → Prop} {st : St} {K : St → Option Out} {r : Out} {a : Act} {w : World}

theorem Kp.grow {w0 w w':World}{F:Foot} {β:Beta}{B:Obs}(h:Kp w0 F β B w){d:Nat}{o o':Ob}(hdl:d < HL)(hd:Obs.get B d=some o)
  (hsz:w.heap.size≤w'.heap.size)(hold:∀ x,x < w.heap.size→(∀ c,β d≠some (x,c))→w'.heap[x]?=w.heap[x]?){x:Option (Nat × Nat)}
  (hx:∀ b c,x=some (b,c)→w.heap.size≤b∨∃ c',β d=some (b,c'))(hrow:∀ t s,o≠.box t s)(hos:w'.os=w.os)(hout:w'.output=w.output) :
  Kp w0 F (β.at d x) (Obs.ins d o' (Obs.del d (Obs.kill d B))) w':=by
 refine ⟨Nat.le_trans h.size hsz,fun y hy hf=>?_,fun y hy=>?_,hos.trans h.os,hout.trans h.output,fun n t b o2 hn ho2=>?_,h.low,fun i y hy=>⟨by rw [Obs.hps_ins hdl,Obs.hps_del hdl,Obs.hps_kill];exact (h.hpk i y hy).1,by unfold Beta.at;rw [if_neg (by have:=HL_HB;omega)];exact (h.hpk i y hy).2⟩⟩
 ·rw [hold y (Nat.lt_of_lt_of_le hy h.size) fun c hc=>?_]
  ·exact h.old y hy hf
  ·rcases h.mine y ⟨d,o,c,hd,hc⟩ with h1|h1
   ·exact hf h1
   ·omega
 ·obtain ⟨e,ob,c,h1,h2⟩:=hy
  by_cases hde:d=e
  ·subst hde
   rw [at_self] at h2
   rcases hx y c h2 with h3|⟨c',h3⟩
   ·exact .inr (Nat.le_trans h.size h3)
   ·exact h.mine y ⟨d,o,c',hd,h3⟩
  ·rw [Obs.get_ins hdl,if_neg hde,Obs.get_del hdl,if_neg hde,Obs.get_kill] at h1
   unfold Beta.at at h2
   rw [if_neg hde] at h2
   cases hg:Obs.get B e with
   | none=>rw [hg] at h1;cases h1
   | some o2=>exact h.mine y ⟨e,o2,c,hg,h2⟩
 ·by_cases hde:d=n
  ·subst hde
   obtain ⟨⟨s,hs⟩,_⟩:=h.stay d t b o hn hd
   exact absurd hs (hrow t s)
  ·rw [Obs.get_ins hdl,if_neg hde,Obs.get_del hdl,if_neg hde,Obs.get_kill] at ho2
   unfold Beta.at
   rw [if_neg hde]
   cases hg:Obs.get B n with
   | none=>rw [hg] at ho2;cases ho2
   | some o3 =>
    rw [hg] at ho2
    injection ho2 with ho2
    obtain ⟨⟨s,rfl⟩,h4⟩:=h.stay n t b o3 hn hg
    subst ho2
    exact ⟨⟨_,rfl⟩,h4⟩

theorem retire_stable {w:World}{Mo:Nat→Prop} (β:Beta)(st:St)(d:Nat):Stable w (Mut Mo β st.B) w (Mut Mo β (st.retire d).B):=by
 intro b hb _
 refine ⟨fun h=>hb ?_,rfl⟩
 rcases h with h|h
 ·exact .inl h
 ·exact .inr (h.sub fun e o he=>(retire_get st d e o he).2)

theorem grow_get {d:Nat}(hd:d < HL)(o':Ob)(B:Obs):Obs.get (Obs.ins d o' B) d=some o':=ins_self hd o' B

theorem e_append (hL:laidOutB E.P=true)(hI:Inv E.P w0 F Mo st a w){o:Oper}(hlo:o.dst.getD 0 < lowB){args:Array Operand}{argTypes:Array TypeId}(ho:o.op=.call { callee:=.builtin .append,args,argTypes })(h:opE0 E o st K=some r):EOk E w0 F Mo o K r a w:=by
 obtain ⟨hdef,β,hR,hk⟩:=hI
 unfold opE0 at h
 rw [ho] at h
 simp only at h
 generalize o.dst.getD 0=dl at h hlo
 match hal:args.toList with
 | []=>rw [hal] at h;cases h
 | [_]=>rw [hal] at h;cases h
 | _ :: _ :: _ :: _=>rw [hal] at h;cases h
 | [x,y] =>
  rw [hal] at h
  simp only [List.map_cons,List.map_nil] at h
  have hargs:args=#[x,y]:=by apply Array.ext';rw [hal]
  subst hargs
  have hx:=get_sound hR o.type x
  have hy:=get_sound hR o.type y
  generalize st.get E.P o.type x=sx at h hx
  generalize st.get E.P o.type y=sy at h hy
  generalize hvx:a.eval x=vx at hx
  generalize hvy:a.eval y=vy at hy
  cases ht0:argTypes[0]? with
  | none=>rw [ht0] at h;cases h
  | some t0 =>
   rw [ht0] at h
   simp only [Option.bind_some] at h
   cases hu:E.P.underlying t0 with
   | none=>rw [hu] at h;cases h
   | some dd =>
    rw [hu] at h
    cases dd with
    | slice e =>
     simp only at h
     cases hm:appended E.P st e (argTypes.getD 1 0) sy with
     | none=>rw [hm] at h;cases h
     | some m =>
      rw [hm] at h
      cases hz:zeroPV E.P e with
      | none=>rw [hz] at h;cases h
      | some z =>
       rw [hz] at h
       simp only at h
       obtain ⟨hc,h⟩:=cond_none h
       simp only [Bool.or_eq_false_iff,Bool.not_eq_false',decide_eq_true_eq] at hc
       obtain ⟨he,hsz⟩:=hc
       obtain ⟨t0',t1,hat⟩:∃ t0' t1,argTypes=#[t0',t1]:=by
        match hl:argTypes.toList with
        | [p,q]=>exact ⟨p,q,by apply Array.ext';rw [hl]⟩
        | []=>have:=congrArg List.length hl;simp [hsz] at this
        | [_]=>have:=congrArg List.length hl;simp [hsz] at this
        | _ :: _ :: _ :: _=>have:=congrArg List.length hl;simp [hsz] at this
       subst hat
       have ht0':t0'=t0:=by simpa using ht0
       subst ht0'
       have hg1:(#[t0',t1]:Array TypeId).getD 1 0=t1:=rfl
       have hg0:(#[t0',t1]:Array TypeId).getD 0 0=t0':=rfl
       rw [hg1] at hm
       rw [hg0] at h
       obtain ⟨zv,zcs,z1,z2,z3,z4⟩:=zeroPV_spec hz
       obtain ⟨it,i1,i2⟩:=run_zero_und z1
       have hce:E.P.cellsOf e=it.size:=by unfold Program.cellsOf;rw [i1];rfl
       have hbe:E.P.bytesOf e=it.bytes:=by unfold Program.bytesOf;rw [i1];rfl
       obtain ⟨news,hsrc,hnr⟩:=appended_src hL hR he hy hm
       have hnl:=hsrc.newsLen
       have hrun:∀ {v w'},(Builtin.append_ #[t0',t1] o.type #[vx,vy]).run E.P w=.ok v w'→(execOp a.eval o).run E.P w=.ok (.value v) w':=by
        intro v w' h
        unfold execOp;rw [ho]
        simp only [resolve,pure_bind,invoke,builtin]
        rw [Sem.run_bind,show (Array.map a.eval #[x,y])=#[vx,vy] by simp [hvx,hvy],h];rfl
       have hsrc':Src E.P it.size t1 vy m.length news w:=by rw [←hce];exact hsrc
       let C:Nat→List Value→List Value:=fun n olds=>olds++(news++(Builtin.zeroCells zv.cells n).toList)
       have newrow:∀ (base:Option Addr)(l:List PV)(sCap:Nat)(cs:List Value),Rows E.P w (Mut Mo β st.B) e l cs→l.length * E.P.cellsOf e≤cs.length→(∀ c ∈ cs,c.oneCell'=true)→(Builtin.firstCells it.size l.length (.slice base l.length sCap)).run E.P w.drew=.ok (cs.take (l.length * E.P.cellsOf e)).toArray w.drew→vx=.slice base l.length sCap →
         sCap < l.length+m.length→l.length≤sCap→roomy (l.length+m.length) (E.P.bytesOf e)=true →
         ∃ (c':Nat)(cs':List Value)(w':World),(execOp a.eval o).run E.P w=.ok (.value (.slice (some ⟨w.heap.size,0,none⟩) (l.length+m.length) c')) w'∧w'.heap=w.heap.push (.cells cs'.toArray e (0,0))∧w'.os=w.os∧w'.output=w.output ∧
          l.length+m.length≤c'∧c'≤maxLen∧cs'.length=c' * E.P.cellsOf e∧(∀ x ∈ cs',x.oneCell'=true)∧Rows E.P w (Mut Mo β st.B) e (l++m) cs':=by
        intro base l sCap cs hrows hcl h1 hfc hvx' hgt hle hroom
        simp only [roomy,Bool.and_eq_true,decide_eq_true_eq] at hroom
        obtain ⟨r1,r2⟩:=hroom
        have hge:=grownCap_ge w (l.length+m.length) sCap e
        have hcm:=grownCap_le_maxLen w (l.length+m.length) sCap e (by unfold maxLen;omega)
        obtain ⟨zo1,zo2⟩:=zero_one hL he z3 z4 (grownCap w (l.length+m.length) sCap e - (l.length+m.length))
        have hlast:=run_append_grow_src w t0' t1 o.type e it zv hu i1 i2 base l.length sCap (cs.take (l.length * E.P.cellsOf e)) hfc vy m.length news hsrc' hgt (by omega)
         (growslice_fits hgt (by rw [←hbe];omega))
        rw [←hvx'] at hlast
        refine ⟨_,cs.take (l.length * E.P.cellsOf e)++(news++(Builtin.zeroCells zv.cells (grownCap w (l.length+m.length) sCap e - (l.length+m.length))).toList),_,hrun hlast,?_,rfl,rfl,hge,hcm,?_,?_,Rows.app hrows hnr hcl hnl⟩
        ·show w.heap.push _=w.heap.push _
         congr 2
         apply Array.ext'
         simp
        ·have hzl:(Builtin.zeroCells zv.cells (grownCap w (l.length+m.length) sCap e - (l.length+m.length))).toList.length=(grownCap w (l.length+m.length) sCap e - (l.length+m.length)) * E.P.cellsOf e:=zo2
         rw [List.length_append,List.length_append,List.length_take,hzl,hnl,Nat.min_eq_left hcl,←Nat.add_mul,←Nat.add_mul]
         congr 1;omega
        ·intro c hc
         rcases List.mem_append.1 hc with hc|hc
         ·exact h1 c (List.mem_of_mem_take hc)
         ·rcases List.mem_append.1 hc with hc|hc
          ·exact hsrc.one c hc
          ·exact zo1 c hc
       by_cases hnil:sx=.nils
       ·subst hnil
        simp only at h
        obtain ⟨hroom,h⟩:=cond_some h
        cases hx with
        | nils =>
         by_cases hm0:m.length=0
         ·have hme:m=[]:=by simpa using hm0
          subst hme
          have hn0:news=[]:=by simpa using hnl
          subst hn0
          have hlast:=run_append_nothing w t0' t1 o.type e it hu i1 none 0 0 (Nat.le_refl _) vy hsrc'
          refine ⟨_,h,fun next Q hn=>?_⟩
          unfold Oper.wp
          rw [hrun hlast,Oper.upon_value]
          obtain ⟨g1,g2⟩:=Post.lay1 hR hk dl hlo (.row e []) (x:=none) (w':=w) (Nat.le_refl _) (fun _ _=>rfl) (fun b c hb=>by cases hb) rfl rfl (fun _=>⟨he,.inl ⟨at_self _ _ _,rfl⟩⟩)
          exact hn _ _ (Inv.put hdef ⟨_,g1,g2,.ownNil hu (lay_get _ (lowHL hlo) _) (at_self _ _ _)⟩ o.dst)
         ·obtain ⟨c',cs',w',k1,k2,k3,k4,k5,k6,k7,k8,k9⟩:=newrow none [] 0 [] (fun i p hi=>by simp at hi) (by simp) (by simp) (by simpa using run_firstCells_none w.drew it.size 0 0 0) rfl (by simp;omega) (by simp) (by simpa using hroom)
          refine ⟨_,h,fun next Q hn=>?_⟩
          unfold Oper.wp
          rw [k1,Oper.upon_value]
          simp only [List.length_nil,Nat.zero_add,List.nil_append] at k5 k9
          obtain ⟨g1,g2⟩:=Post.lay1 hR hk dl hlo (.row e m) (x:=some (w.heap.size,c')) (w':=w') (by rw [k2];simp) (fun b hb=>by rw [k2];exact push_old hb) (fun b c hb=>by
           injection hb with hb;injection hb with h2 h3;subst h2;exact ⟨Nat.le_refl _,by rw [k2];simp⟩) k3 k4 (fun hsame=>⟨he,.inr ⟨_,c',cs',(0,0),at_self _ _ _,by rw [k2];exact push_new,fun o _=>by omega,k5,k6,k7,k8,fun i p hi=>((k9 i p hi).mono (retire_stable β st dl)).mono hsame.st⟩⟩)
          refine hn _ _ (Inv.put hdef ⟨_,g1,g2,?_⟩ o.dst)
          have:=RS.own (P:=E.P) (w:=w') (M:=Mut Mo (β.at dl (some (w.heap.size,c'))) (st.lay [(dl,.row e m)]).B) (t:=t0') (c:=c') hu (lay_get st (lowHL hlo) (.row e m)) (at_self β dl (some (w.heap.size,c'))) k5
          simpa using this
       ·cases sx with
        | own u d =>
         simp only at h
         cases hob:Obs.get st.B d with
         | none=>rw [hob] at h;cases h
         | some ob =>
          rw [hob] at h
          cases ob with
          | box _ _=>cases h
          | map _ _=>cases h
          | hp _=>cases h
          | hvar _ _=>cases h
          | hrow _ _=>cases h
          | row e' l =>
           simp only at h
           obtain ⟨hc,h⟩:=cond_some h
           simp only [Bool.and_eq_true,beq_iff_eq] at hc
           obtain ⟨rfl,hroom⟩:=hc
           have hRO:=hR.ob d _ hob
           have hdl:=lo_row hob
           have fin:∀ {x:Option (Nat × Nat)}{v:Value}{w':World},(execOp a.eval o).run E.P w=.ok (.value v) w'→w.heap.size≤w'.heap.size→(∀ y,y < w.heap.size→(∀ c,β d≠some (y,c))→w'.heap[y]?=w.heap[y]?) →
             (∀ b c,x=some (b,c)→b < w'.heap.size∧(w.heap.size≤b∨∃ c',β d=some (b,c')))→w'.os=w.os→w'.output=w.output →
             (SameBut E.P d w (Mut Mo β st.B) β st.B w' (Mut Mo (β.at d x) (Obs.ins d (.row e' (l++m)) (Obs.del d (Obs.kill d st.B)))) (β.at d x) (Obs.ins d (.row e' (l++m)) (Obs.del d (Obs.kill d st.B)))→RO E.P w' (Mut Mo (β.at d x) (Obs.ins d (.row e' (l++m)) (Obs.del d (Obs.kill d st.B)))) (β.at d x) (Obs.ins d (.row e' (l++m)) (Obs.del d (Obs.kill d st.B))) d (.row e' (l++m))) →
             RS E.P w' (Mut Mo (β.at d x) (Obs.ins d (.row e' (l++m)) (Obs.del d (Obs.kill d st.B)))) (β.at d x) (Obs.ins d (.row e' (l++m)) (Obs.del d (Obs.kill d st.B))) (.own u d) v→EOk E w0 F Mo o K r a w:=by
            intro x v w' hr hsz hold hx hos hout hro hrs
            have hsb:=samebut_grow hR hdl hob hold (fun b c hb=>(hx b c hb).2) (.row e' (l++m))
            have hR':=hR.grow hdl hob hsz hold hx (.row e' (l++m)) (hro hsb)
            have hk':=hk.grow (o':=.row e' (l++m)) hdl hob hsz hold (fun b c hb=>(hx b c hb).2) (fun t s h=>by cases h) hos hout
            refine ⟨_,h,fun next Q hn=>?_⟩
            unfold Oper.wp
            rw [hr,Oper.upon_value]
            exact hn _ _ (Inv.put (st:={ T:=SV.kills d st.T,B:=Obs.ins d (.row e' (l++m)) (Obs.del d (Obs.kill d st.B)) }) hdef ⟨_,hR',hk',hrs⟩ o.dst)
           have far:∀ (base:Option Addr)(sCap:Nat)(cs:List Value),Rows E.P w (Mut Mo β st.B) e' l cs→l.length * E.P.cellsOf e'≤cs.length→(∀ c ∈ cs,c.oneCell'=true)→(Builtin.firstCells it.size l.length (.slice base l.length sCap)).run E.P w.drew=.ok (cs.take (l.length * E.P.cellsOf e')).toArray w.drew→vx=.slice base l.length sCap →
             E.P.underlying u=some (.slice e')→sCap < l.length+m.length→l.length≤sCap→EOk E w0 F Mo o K r a w:=by
            intro base sCap cs q1 q2 q3 q4 q5 q6 q7 q8
            obtain ⟨c',cs',w',k1,k2,k3,k4,k5,k6,k7,k8,k9⟩:=newrow base l sCap cs q1 q2 q3 q4 q5 q7 q8 hroom
            refine fin (x:=some (w.heap.size,c')) k1 (by rw [k2];simp) (fun b hb _=>by rw [k2];exact push_old hb) (fun b c hb=>by
             injection hb with hb;injection hb with h2 h3;subst h2;exact ⟨by rw [k2];simp,.inl (Nat.le_refl _)⟩) k3 k4 (fun hsb=>⟨he,.inr ⟨_,c',cs',(0,0),at_self _ _ _,by rw [k2];exact push_new,fun o _=>by omega,by simpa using k5,k6,k7,k8,fun i p hi=>(k9 i p hi).mono hsb.st⟩⟩) ?_
            have:=RS.own (P:=E.P) (w:=w') (M:=Mut Mo (β.at d (some (w.heap.size,c'))) (Obs.ins d (.row e' (l++m)) (Obs.del d (Obs.kill d st.B)))) (t:=u) (c:=c') q6 (grow_get hdl (.row e' (l++m)) (Obs.del d (Obs.kill d st.B))) (at_self β d (some (w.heap.size,c'))) (by simpa using k5)
            simpa using this
           cases hx with
           | ownNil hu2 hget hβ =>
            rw [hob] at hget
            injection hget with hget;injection hget with h1 h2;subst h2
            rw [←h1] at hu2
            by_cases hm0:m.length=0
            ·have hme:m=[]:=by simpa using hm0
             subst hme
             have hn0:news=[]:=by simpa using hnl
             subst hn0
             have hlast:=run_append_nothing w t0' t1 o.type e' it hu i1 none 0 0 (Nat.le_refl _) vy hsrc'
             exact fin (x:=none) (hrun hlast) (Nat.le_refl _) (fun _ _ _=>rfl) (fun b c hb=>by cases hb) rfl rfl (fun _=>⟨he,.inl ⟨at_self _ _ _,rfl⟩⟩) (.ownNil hu2 (grow_get hdl _ _) (at_self _ _ _))
            ·exact far none 0 [] (fun i p hi=>by simp at hi) (by simp) (by simp) (by simpa using run_firstCells_none w.drew it.size 0 0 0) rfl hu2 (by simp;omega) (by simp)
           | @own _ _ _ l2 b c hu2 hget hβ hlc =>
            rw [hob] at hget
            injection hget with hget;injection hget with h1 h2;subst h2
            rw [←h1] at hu2
            obtain ⟨_,hRO⟩:=hRO
            rcases hRO with ⟨hb0,_⟩|⟨b',c',cs,fr,o1,o2,o3,o4,o5,o6,o7,o8⟩
            ·rw [hb0] at hβ;cases hβ
            ·rw [o1] at hβ;injection hβ with hβ;injection hβ with hb hc;subst hb;subst hc
             have hlcs:l.length * E.P.cellsOf e'≤cs.length:=by rw [o6];exact Nat.mul_le_mul_right _ o4
             by_cases hfit:l.length+m.length≤c'
             ·have hmc:=Nat.mul_le_mul_right (E.P.cellsOf e') hfit
              rw [Nat.add_mul] at hmc
              have hnin:l.length * E.P.cellsOf e'+news.length≤cs.length:=by rw [hnl,o6];exact hmc
              have hlast:=run_append_room_src w t0' t1 o.type e' it hu i1 b' 0 l.length c' vy m.length news hsrc' hfit
               (fun j hj=>by
                unfold World.cell?
                rw [←hce]
                simp only [o2,Option.isSome_none,Bool.false_eq_true,if_false]
                simp;omega)
               (fun j hj=>by
                unfold World.frozen?
                rw [←hce]
                simp only [o2]
                have:¬ (fr.1≤0+l.length * E.P.cellsOf e'+j∧0+l.length * E.P.cellsOf e'+j < fr.2):=by have:=o3 (0+l.length * E.P.cellsOf e'+j) (by omega);omega
                simp only [Bool.and_eq_false_iff,decide_eq_false_iff_not]
                rcases Nat.lt_or_ge (0+l.length * E.P.cellsOf e'+j) fr.1 with h|h
                ·exact .inl (by omega)
                ·exact .inr (fun h'=>this ⟨h,h'⟩))
              rw [←hce,Nat.zero_add] at hlast
              have hblk:=setCells_block b' news (l.length * E.P.cellsOf e') w cs e' fr o2 hnin
              refine fin (x:=some (b',c')) (hrun hlast) (by rw [setCells_size];exact Nat.le_refl _) (fun y hy hne=>setCells_other b' y (fun hyb=>hne c' (by rw [hyb];exact o1)) news _ w) (fun b c hb=>by
               injection hb with hb;injection hb with h2 h3;subst h2
               exact ⟨by rw [setCells_size];exact hR.lt _ _ _ _ hob o1,.inr ⟨_,o1⟩⟩) (setCells_os b' news _ w).1 (setCells_os b' news _ w).2 (fun hsb=>⟨he,.inr ⟨b',c',_,fr,at_self _ _ _,hblk,fun o ho=>by rw [splice_len hnin] at ho ⊢;exact o3 o ho,by simpa using hfit,o5,by rw [splice_len hnin];exact o6,fun x hx=>?_,?_⟩⟩) ?_
              ·rcases mem_splice hx with hx|hx
               ·exact o7 x hx
               ·exact hsrc.one x hx
              ·have:=Rows.app (rest:=cs.drop (l.length * E.P.cellsOf e'+news.length)) (show Rows E.P w (Mut Mo β st.B) e' l cs from o8) hnr hlcs hnl
               exact fun i p hi=>(this i p hi).mono hsb.st
              ·have:=RS.own (P:=E.P) (w:=w.setCells b' (l.length * E.P.cellsOf e') news) (M:=Mut Mo (β.at d (some (b',c'))) (Obs.ins d (.row e' (l++m)) (Obs.del d (Obs.kill d st.B)))) (t:=u) (c:=c') hu2 (grow_get hdl (.row e' (l++m)) (Obs.del d (Obs.kill d st.B))) (at_self β d (some (b',c'))) (by simpa using hfit)
               simpa using this
             ·refine far (some ⟨b',0,none⟩) c' cs o8 hlcs o7 ?_ rfl hu2 (by omega) o4
              have:=run_firstCells_some (P:=E.P) w.drew it.size l.length ⟨b',0,none⟩ l.length c' (cs.take (l.length * E.P.cellsOf e')) (by rw [List.length_take,Nat.min_eq_left hlcs,hce]) (fun j v hj=>by
               have hj':(sub cs 0 (l.length * E.P.cellsOf e'))[j]?=some v:=hj
               have:=cell_block o2 j _ hj'
               simpa using this)
              exact this
        | nils=>exact absurd rfl hnil
        | _=>cases h
    | _=>cases h

end
end Go.X
namespace Go.X
open Go
section
variable {P : Program}

structure Ren (P:Program) (φ:Nat→Option Nat)(w:World)(M:Nat→Prop) (β:Beta)(B:Obs)(w':World)(M':Nat→Prop) (β':Beta)(B':Obs):Prop where
 st:Stable w M w' M'
 ptr:∀ d e ob,φ d=some e→Obs.get B d=some ob→∃ ob',Obs.get B' e=some ob'∧β' e=β d∧(∀ q off,offO P ob q=some off→offO P ob' q=some off) ∧
  (∀ u l,ob=.row u l→∃ l',ob'=.row u l'∧l'.length=l.length)
 hp:∀ i x,GH β B i x→GH β' B' i x
 low:∀ d e,φ d=some e→d < HL→e < HL

theorem SV.rens_get (φ:Nat→Option Nat):∀ (l:List SV)(i:Nat),(SV.rens φ l)[i]?=(l[i]?).map (SV.ren φ)
 | [],i=>by simp [SV.rens]
 | s :: l,0=>by simp [SV.rens]
 | s :: l,i+1=>by simpa [SV.rens] using SV.rens_get φ l i
theorem SV.rens_len (φ:Nat→Option Nat):∀ (l:List SV),(SV.rens φ l).length=l.length
 | []=>rfl
 | s :: l=>by simp [SV.rens,SV.rens_len φ l]
theorem Obs.get0_ren (φ:Nat→Option Nat):∀ (B:Obs)(e:Nat),Obs.get0 (Obs.ren φ B) e=(Obs.get0 B e).map (Ob.ren φ)
 | [],e=>rfl
 | (k,o) :: B,e=>by
  simp only [Obs.ren,Obs.get0]
  cases k==e
  ·exact Obs.get0_ren φ B e
  ·rfl
theorem Ob.ren_hp {φ:Nat→Option Nat}{o:Ob}{l:List HE}(h:o.ren φ=.hp l):o=.hp l:=by cases o <;> first|exact h|cases h
theorem Obs.get_ren (φ:Nat→Option Nat)(B:Obs)(e:Nat):Obs.get (Obs.ren φ B) e=(Obs.get B e).map (Ob.ren φ):=by
 by_cases he:e < HL
 ·rw [Obs.get_lo he,Obs.get_lo he,Obs.get0_ren]
 ·rw [Obs.get_hi he,Obs.get_hi he,Obs.get0_ren,hiOf_map (fun _=>rfl) (fun _ _ h=>Ob.ren_hp h) (fun _ _=>rfl) (fun _ _=>rfl)]
theorem Obs.hps_ren (φ:Nat→Option Nat)(B:Obs):Obs.hps (Obs.ren φ B)=Obs.hps B:=by
 unfold Obs.hps;rw [Obs.get0_ren];exact hpsOf_map (fun _=>rfl) (fun _ _ h=>Ob.ren_hp h) _

theorem ren_map {l:List SV} {φ:Nat→Option Nat}{i:Nat}{s:SV}(h:(SV.rens φ l)[i]?=some s):∃ s0,l[i]?=some s0∧s=s0.ren φ:=by
 rw [SV.rens_get] at h
 cases hl:l[i]? with
 | none=>rw [hl] at h;cases h
 | some s0=>rw [hl] at h;injection h with h;exact ⟨s0,rfl,h.symm⟩

theorem SV.isT_ren {t:TypeId}{s:SV} (φ:Nat→Option Nat)(h:s.isT P t):(s.ren φ).isT P t:=by
 cases s with
 | own u d =>
  unfold SV.ren
  cases hφ:φ d with
  | none=>exact .inr (.inr (.inl rfl))
  | some e =>
   rcases h with h|h|h|⟨l,h⟩
   ·simp [SV.pvT] at h
   ·exact .inr (.inl h)
   ·cases h
   ·cases h
 | mp u d =>
  unfold SV.ren
  cases hφ:φ d with
  | none=>exact .inr (.inr (.inl rfl))
  | some e =>
   rcases h with h|h|h|⟨l,h⟩
   ·simp [SV.pvT] at h
   ·exact .inr (.inl h)
   ·cases h
   ·cases h
 | ptr d q =>
  unfold SV.ren
  cases hφ:φ d with
  | none=>exact .inr (.inr (.inl rfl))
  | some e =>
   rcases h with h|h|h|⟨l,h⟩
   ·simp [SV.pvT] at h
   ·exact .inr (.inl h)
   ·cases h
   ·cases h
 | agg u l =>
  have:=SV.isT_agg h
  subst this
  exact .inr (.inr (.inr ⟨_,rfl⟩))
 | fn f l =>
  rcases h with h|h|h|⟨l,h⟩
  ·simp [SV.pvT] at h
  ·exact .inr (.inl h)
  ·cases h
  ·cases h
 | tup l =>
  rcases h with h|h|h|⟨l,h⟩
  ·simp [SV.pvT] at h
  ·simp [SV.isHandle] at h
  ·cases h
  ·cases h
 | _=>exact h

theorem RS.ren {φ:Nat→Option Nat}{w w':World}{M M':Nat→Prop} {β β':Beta}{B B':Obs}(h:Ren P φ w M β B w' M' β' B'){s:SV}{v:Value}(hr:RS P w M β B s v):RS P w' M' β' B' (s.ren φ) v:=by
 induction hr with
 | int a=>exact .int a
 | bool=>exact .bool
 | str a=>exact .str a
 | flt a=>exact .flt a
 | val a b=>exact .val a (b.mono h.st)
 | @agg t fs l cs vs a b c d e f _ ih =>
  refine .agg (vs:=vs) a b (by rw [SV.rens_len];exact c) d e (fun i g s hg hs=>?_) (fun i s hs=>?_)
  ·obtain ⟨s0,h1,rfl⟩:=ren_map hs
   obtain ⟨k1,k2⟩:=f i g s0 hg h1
   exact ⟨SV.isT_ren φ k1,k2⟩
  ·obtain ⟨s0,h1,rfl⟩:=ren_map hs
   exact ih i s0 h1
 | fro a b c=>exact .fro a (b.mono h.st) (c.mono h.st)
 | @ptr d q b c off ob h1 h2 h3 =>
  unfold SV.ren
  cases hφ:φ d with
  | none=>exact .dead
  | some e =>
   obtain ⟨ob',k1,k2,k3,_⟩:=h.ptr d e ob hφ h1
   exact .ptr k1 (k2.trans h2) (k3 _ _ h3)
 | @own t d e l b c h1 h2 h3 h4 =>
  unfold SV.ren
  cases hφ:φ d with
  | none=>exact .dead
  | some e' =>
   obtain ⟨ob',k1,k2,_,k4⟩:=h.ptr d e' _ hφ h2
   obtain ⟨l',rfl,hl⟩:=k4 _ _ rfl
   rw [←hl] at h4 ⊢
   exact .own h1 k1 (k2.trans h3) h4
 | @ownNil t d e h1 h2 h3 =>
  unfold SV.ren
  cases hφ:φ d with
  | none=>exact .dead
  | some e' =>
   obtain ⟨ob',k1,k2,_,k4⟩:=h.ptr d e' _ hφ h2
   obtain ⟨l',rfl,hl⟩:=k4 _ _ rfl
   have:l'=[]:=by simpa using hl
   subst this
   exact .ownNil h1 k1 (k2.trans h3)
 | @mp t d k e b c ob h1 h2 h3 hlt =>
  unfold SV.ren
  cases hφ:φ d with
  | none=>exact .dead
  | some e' =>
   obtain ⟨ob',k1,k2,_,_⟩:=h.ptr d e' ob hφ h2
   exact .mp h1 k1 (k2.trans h3) (h.low _ _ hφ hlt)
 | hval a b=>exact .hval a (b.mono h.st h.hp)
 | hptr a b=>exact .hptr (h.hp _ _ a) b
 | hsub r a b c d e f=>exact .hsub r a b (h.hp _ _ c) d e f
 | nils=>exact .nils
 | nilp=>exact .nilp
 | nili=>exact .nili
 | @fn f l cv vs a b _ ih =>
  refine .fn (vs:=vs) (by rw [SV.rens_len];exact a) (fun i hi=>b i (by rwa [SV.rens_len] at hi)) (fun i s hs=>?_)
  obtain ⟨s0,h1,rfl⟩:=ren_map hs
  exact ih i s0 h1
 | @tup l cv vs a b _ ih =>
  refine .tup (vs:=vs) (by rw [SV.rens_len];exact a) (fun i hi=>b i (by rwa [SV.rens_len] at hi)) (fun i s hs=>?_)
  obtain ⟨s0,h1,rfl⟩:=ren_map hs
  exact ih i s0 h1
 | undef=>exact .undef
 | dead=>exact .dead

theorem offO_ren (φ:Nat→Option Nat)(o:Ob)(q:List Stp):offO P (o.ren φ) q=offO P o q:=by cases o <;> rfl
theorem row_ren (φ:Nat→Option Nat){o:Ob}{e:TypeId}{l:List PV}(h:o=.row e l):o.ren φ=.row e l:=by subst h;rfl

theorem RO.ren {φ:Nat→Option Nat}{w w':World}{M M':Nat→Prop} {β β':Beta}{B B':Obs}(h:Ren P φ w M β B w' M' β' B'){d e:Nat}{o:Ob}(hβ:β' e=β d)
  (hb:∀ b c,β d=some (b,c)→w'.heap[b]?=w.heap[b]?)(hr:RO P w M β B d o):RO P w' M' β' B' e (o.ren φ):=by
 cases o with
 | box t s =>
  obtain ⟨b,c,cs,v,fr,h1,h2,h3,h4,h5,h6,h7,h8,h9⟩:=hr
  exact ⟨b,c,cs,v,fr,hβ.trans h1,(hb b c h1).trans h2,h3,h4,h5,h6,h7.ren h,SV.isT_ren φ h8,h9⟩
 | row u l =>
  obtain ⟨h0,hr⟩:=hr
  refine ⟨h0,?_⟩
  rcases hr with ⟨h1,h2⟩|⟨b,c,cs,fr,h1,h2,h3,h4,h5,h6,h7,h8⟩
  ·exact .inl ⟨hβ.trans h1,h2⟩
  ·exact .inr ⟨b,c,cs,fr,hβ.trans h1,(hb b c h1).trans h2,h3,h4,h5,h6,h7,fun i p hi=>(h8 i p hi).mono h.st⟩
 | map t l =>
  obtain ⟨b,c,k,e',es,clock,h1,h2,h3,h4,h5⟩:=hr
  exact ⟨b,c,k,e',es,clock,hβ.trans h1,(hb b c h1).trans h2,h3,h4,fun i x hx=>let ⟨pk,pv,ck,cv,g1,g2,g3,g4,g5⟩:=h5 i x hx;⟨pk,pv,ck,cv,g1,g2,g3.mono h.st,g4,g5.mono h.st⟩⟩
 | hp l=>exact hβ.trans hr
 | hvar t p =>
  obtain ⟨b,c,cs,fr,h1,h2,h3,h4,h5,h6,h7⟩:=hr
  exact ⟨b,c,cs,fr,hβ.trans h1,(hb b c h1).trans h2,h3,h4,h5,h6.mono h.st h.hp,h7⟩
 | hrow u l =>
  obtain ⟨hz,b,c,cs,fr,h1,h2,h3,h4,h5,h6,h7,h8⟩:=hr
  exact ⟨hz,b,c,cs,fr,hβ.trans h1,(hb b c h1).trans h2,h3,h4,h5,h6,h7,fun i p hp=>(h8 i p hp).mono h.st h.hp⟩

/-! ### Lists of pairs -/

theorem look_mem:∀ {l:List (Nat × Nat)}{n d:Nat},look n l=some d→(n,d) ∈ l
 | [],_,_,h=>by cases h
 | (a,b) :: l,n,d,h=>by
  unfold look at h
  by_cases ha:a=n
  ·subst ha
   simp only [beq_self_eq_true,cond_true,Option.some.injEq] at h
   subst h;simp
  ·rw [show (a==n)=false by simpa using ha,cond_false] at h
   exact List.mem_cons_of_mem _ (look_mem h)
theorem nodupB_iff:∀ {l:List Nat},nodupB l=true→l.Nodup
 | [],_=>List.nodup_nil
 | a :: l,h=>by
  unfold nodupB at h
  simp only [Bool.and_eq_true,Bool.not_eq_true',List.contains_eq_mem,decide_eq_false_iff_not] at h
  exact List.nodup_cons.2 ⟨h.1,nodupB_iff h.2⟩
theorem mem_look:∀ {l:List (Nat × Nat)}{n d:Nat},(l.map (·.1)).Nodup→(n,d) ∈ l→look n l=some d
 | [],_,_,_,h=>by simp at h
 | (a,b) :: l,n,d,hn,h=>by
  rw [List.map_cons,List.nodup_cons] at hn
  unfold look
  by_cases ha:a=n
  ·subst ha
   simp only [beq_self_eq_true,cond_true,Option.some.injEq]
   rcases List.mem_cons.1 h with h|h
   ·injection h with _ h;exact h.symm
   ·exact absurd (List.mem_map.2 ⟨_,h,rfl⟩) hn.1
  ·rw [show (a==n)=false by simpa using ha,cond_false]
   rcases List.mem_cons.1 h with h|h
   ·injection h with h _;exact absurd h.symm ha
   ·exact mem_look hn.2 h
theorem nodup_pair {l:List (Nat × Nat)}(h:(l.map (·.2)).Nodup){a b c:Nat}(h1:(a,c) ∈ l)(h2:(b,c) ∈ l):a=b:=by
 induction l with
 | nil=>simp at h1
 | cons x l ih =>
  rw [List.map_cons,List.nodup_cons] at h
  rcases List.mem_cons.1 h1 with e1|e1 <;> rcases List.mem_cons.1 h2 with e2|e2
  ·rw [←e2] at e1;injection e1
  ·exfalso;subst e1;exact h.1 (List.mem_map.2 ⟨_,e2,rfl⟩)
  ·exfalso;subst e2;exact h.1 (List.mem_map.2 ⟨_,e1,rfl⟩)
  ·exact ih h.2 e1 e2

theorem handObs_get {st:St}{m:List (Nat × Nat)}:∀ {l:List (Nat × Nat)}{os:Obs},handObs st m l=some os→os.map (·.1)=l.map (·.2) ∧
  (∀ d n,(d,n) ∈ l→∃ o,Obs.get st.B d=some o∧(n,o.ren (look · m)) ∈ os)∧(∀ n o',(n,o') ∈ os→∃ d o,(d,n) ∈ l∧Obs.get st.B d=some o∧o'=o.ren (look · m))
 | [],os,h=>by
  simp only [handObs,Option.some.injEq] at h;subst h
  exact ⟨rfl,fun d n h=>by simp at h,fun n o h=>by simp at h⟩
 | (d,n) :: l,os,h=>by
  unfold handObs at h
  cases h1:Obs.get st.B d with
  | none=>rw [h1] at h;cases h
  | some o =>
   cases h2:handObs st m l with
   | none=>rw [h1,h2] at h;cases h
   | some os' =>
    rw [h1,h2] at h
    replace h:(n,o.ren (look · m)) :: os'=os:=by injection h
    subst h
    obtain ⟨g1,g2,g3⟩:=handObs_get h2
    refine ⟨by simp [g1],fun d' n' hm=>?_,fun n' o' hm=>?_⟩
    ·rcases List.mem_cons.1 hm with e|e
     ·injection e with e1 e2;subst e1;subst e2;exact ⟨o,h1,by simp⟩
     ·obtain ⟨o2,k1,k2⟩:=g2 d' n' e
      exact ⟨o2,k1,List.mem_cons_of_mem _ k2⟩
    ·rcases List.mem_cons.1 hm with e|e
     ·injection e with e1 e2;subst e1;subst e2;exact ⟨d,o,by simp,h1,rfl⟩
     ·obtain ⟨d2,o2,k1,k2⟩:=g3 n' o' e
      exact ⟨d2,o2,List.mem_cons_of_mem _ k1,k2⟩

theorem Obs.get0_mem:∀ {B:Obs}{n:Nat}{o:Ob},Obs.get0 B n=some o→(n,o) ∈ B
 | [],_,_,h=>by cases h
 | (k,x) :: B,n,o,h=>by
  unfold Obs.get0 at h
  by_cases hk:k=n
  ·subst hk
   simp only [beq_self_eq_true,cond_true,Option.some.injEq] at h
   subst h;simp
  ·rw [show (k==n)=false by simpa using hk,cond_false] at h
   exact List.mem_cons_of_mem _ (Obs.get0_mem h)
theorem Obs.mem_get0:∀ {B:Obs}{n:Nat}{o:Ob},(B.map (·.1)).Nodup→(n,o) ∈ B→Obs.get0 B n=some o
 | [],_,_,_,h=>by simp at h
 | (k,x) :: B,n,o,hn,h=>by
  rw [List.map_cons,List.nodup_cons] at hn
  unfold Obs.get0
  by_cases hk:k=n
  ·subst hk
   simp only [beq_self_eq_true,cond_true,Option.some.injEq]
   rcases List.mem_cons.1 h with h|h
   ·injection h with _ h;exact h.symm
   ·exact absurd (List.mem_map.2 ⟨_,h,rfl⟩) hn.1
  ·rw [show (k==n)=false by simpa using hk,cond_false]
   rcases List.mem_cons.1 h with h|h
   ·injection h with h _;exact absurd h.symm hk
   ·exact Obs.mem_get0 hn.2 h
theorem Obs.get_mem {B:Obs}{n:Nat}{o:Ob}(hn:n < HB)(h:Obs.get B n=some o):(n,o) ∈ B:=by
 by_cases hl:n < HL
 ·rw [Obs.get_lo hl] at h;exact Obs.get0_mem h
 ·by_cases he:n=HL
  ·subst he
   obtain ⟨l,rfl,h2⟩:=Obs.hp_of h
   exact Obs.get0_mem h2
  ·rw [Obs.get_hi hl] at h
   rcases hiOf_some h with ⟨h1,_⟩|⟨i,y,h1,_⟩
   ·exact absurd h1 he
   ·omega
theorem Obs.mem_get {B:Obs}{n:Nat}{o:Ob}(hn:n < HL)(hd:(B.map (·.1)).Nodup)(h:(n,o) ∈ B):Obs.get B n=some o:=by
 rw [Obs.get_lo hn];exact Obs.mem_get0 hd h

theorem backAll_get {φ:Nat→Option Nat}{B':Obs}:∀ (l:List (Nat × Nat))(B:Obs),(l.map (·.2)).Nodup→
  (∀ d,d ∉ l.map (·.2)→Obs.get0 (backAll φ B' l B) d=Obs.get0 B d)∧(∀ n d,(n,d) ∈ l→Obs.get0 (backAll φ B' l B) d=(Obs.get B' n).map (Ob.ren φ))
 | [],B,_=>⟨fun d _=>rfl,fun n d h=>by simp at h⟩
 | (n,d) :: l,B,hn=>by
  rw [List.map_cons,List.nodup_cons] at hn
  have step:∀ B1,(∀ e,e≠d→Obs.get0 B1 e=Obs.get0 B e)→Obs.get0 B1 d=(Obs.get B' n).map (Ob.ren φ) →
    (∀ e,e ∉ ((n,d) :: l).map (·.2)→Obs.get0 (backAll φ B' l B1) e=Obs.get0 B e)∧(∀ n' e,(n',e) ∈ (n,d) :: l→Obs.get0 (backAll φ B' l B1) e=(Obs.get B' n').map (Ob.ren φ)):=by
   intro B1 h1 h2
   obtain ⟨g1,g2⟩:=backAll_get l B1 hn.2
   refine ⟨fun e he=>?_,fun n' e he=>?_⟩
   ·rw [List.map_cons,List.mem_cons,not_or] at he
    rw [g1 e he.2,h1 e he.1]
   ·rcases List.mem_cons.1 he with he|he
    ·injection he with e1 e2;subst e1;subst e2
     rw [g1 _ hn.1,h2]
    ·exact g2 n' e he
  unfold backAll
  cases ho:Obs.get B' n with
  | none =>
   simp only
   exact step (Obs.del d B) (fun e he=>by rw [Obs.get0_del,if_neg (Ne.symm he)]) (by rw [Obs.get0_del,if_pos rfl,ho];rfl)
  | some o =>
   simp only
   exact step (Obs.ins d (o.ren φ) (Obs.del d B)) (fun e he=>by rw [Obs.get0_ins,if_neg (Ne.symm he),Obs.get0_del,if_neg (Ne.symm he)]) (by rw [Obs.get0_ins,if_pos rfl,ho];rfl)

theorem boxKept_spec {st:St}{B':Obs}:∀ {l:List (Nat × Nat)},boxKept st B' l=true→∀ d n t s,(d,n) ∈ l→Obs.get st.B d=some (.box t s)→∃ o,Obs.get B' n=some o
 | [],_,d,n,t,s,h,_=>by simp at h
 | (d',n') :: l,h,d,n,t,s,hm,hb=>by
  simp only [boxKept,Bool.and_eq_true] at h
  rcases List.mem_cons.1 hm with e|e
  ·injection e with e1 e2;subst e1;subst e2
   cases hg:Obs.get B' n with
   | none=>rw [hb,hg] at h;cases h.1
   | some o=>exact ⟨o,rfl⟩
  ·exact boxKept_spec h.2 d n t s e hb

end
end Go.X
namespace Go.X
open Go
section
variable {E : Env} {w0 : World} {F : Foot} {Mo : Nat → Prop} {st : St} {a : Act} {w : World}

theorem retSV_rs {P:Program}{M:Nat→Prop} {β:Beta}{B:Obs}{l:List SV}{rvs:List Value}(hlen:rvs.length=l.length)
  (each:∀ (i:Nat)(s:SV)(v:Value),l[i]?=some s→rvs[i]?=some v→RS P w M β B s v):RS P w M β B (retSV l) (retV rvs):=by
 by_cases h1s:∃ s,l=[s]
 ·obtain ⟨s,rfl⟩:=h1s
  obtain ⟨v,rfl⟩:∃ v,rvs=[v]:=by
   match rvs,hlen with
   | [v],_=>exact ⟨v,rfl⟩
  exact each 0 s v rfl rfl
 ·have e1:retSV l=.tup l:=by
   unfold retSV
   split
   ·rename_i s;exact absurd ⟨s,rfl⟩ h1s
   ·rfl
  have e2:retV rvs=.tuple rvs.toArray:=by
   unfold retV
   split
   ·rename_i v
    exfalso;apply h1s
    match l,hlen with
    | [s],_=>exact ⟨s,rfl⟩
   ·rfl
  rw [e1,e2]
  refine .tup (vs:=fun i=>rvs.getD i undef) (by simp [hlen]) (fun i hi=>?_) (fun i s hs=>?_)
  ·rw [List.getElem?_toArray,List.getElem?_eq_getElem (by omega),List.getD_eq_getElem?_getD,List.getElem?_eq_getElem (by omega)];rfl
  ·have hi:=get_lt hs
   refine each i s _ hs ?_
   rw [List.getD_eq_getElem?_getD,List.getElem?_eq_getElem (by omega)];rfl

def swap (m:List (Nat × Nat)):List (Nat × Nat):=m.map fun x=>(x.2,x.1)
theorem mem_swap {m:List (Nat × Nat)}{a b:Nat}:(a,b) ∈ swap m ↔ (b,a) ∈ m:=by
 unfold swap
 constructor
 ·intro h
  obtain ⟨⟨x,y⟩,h1,h2⟩:=List.mem_map.1 h
  injection h2 with h2 h3;subst h2;subst h3;exact h1
 ·intro h;exact List.mem_map.2 ⟨(b,a),h,rfl⟩
theorem swap_fst (m:List (Nat × Nat)):(swap m).map (·.1)=m.map (·.2):=by simp [swap,Function.comp_def]
theorem swap_snd (m:List (Nat × Nat)):(swap m).map (·.2)=m.map (·.1):=by simp [swap,Function.comp_def]

theorem handBox_low {st:St}{d L:Nat}(hL:lowB≤L):∀ x ∈ handBox st d L,lowB≤x.2:=by
 intro x hx
 unfold handBox at hx
 rcases List.mem_cons.1 hx with h|h
 ·subst h;exact hL
 ·cases hg:Obs.get st.B d with
  | none=>rw [hg] at h;simp at h
  | some o =>
   rw [hg] at h
   cases o with
   | box t s =>
    simp only at h
    obtain ⟨y,_,rfl⟩:=List.mem_map.1 h
    simp only;omega
   | row _ _=>simp at h
   | map _ _=>simp at h
   | hp _=>simp at h
   | hvar _ _=>simp at h
   | hrow _ _=>simp at h
theorem handMap_low {f:FuncId}:∀ (l:List SV)(i:Nat),∀ x ∈ handMap E st f i l,lowB≤x.2
 | [],i,x,hx=>by simp [handMap] at hx
 | s :: l,i,x,hx=>by
  unfold handMap at hx
  have hi:lowB≤lowB * (i+1):=Nat.le_mul_of_pos_right _ (by omega)
  rcases List.mem_append.1 hx with h|h
  ·cases s with
   | ptr d q=>exact handBox_low hi x h
   | own u d =>
    simp only at h
    cases ho:E.ownPar f i
    ·rw [ho] at h;simp at h
    ·rw [ho] at h
     simp only [cond_true,List.mem_singleton] at h
     subst h;exact hi
   | fn g caps =>
    simp only at h
    obtain ⟨y,_,hy⟩:=List.mem_flatMap.1 h
    cases hc:y.1 with
    | ptr d q=>rw [hc] at hy;exact handBox_low (by omega) x hy
    | _=>rw [hc] at hy;simp at hy
   | _=>simp at h
  ·exact handMap_low l (i+1) x h

structure HM (st:St)(m:List (Nat × Nat)):Prop where
 lab:∀ d n,(d,n) ∈ m→(d < HL∧n < HL)∨(d=HL∧n=HL)
 hp:∀ l,Obs.get0 st.B HL=some (.hp l)→(HL,HL) ∈ m
theorem HM.of {m:List (Nat × Nat)}(h:(m.all fun x=>x.1.blt HL&&x.2.blt HL)=true):HM st (hpPair st++m):=by
 refine ⟨fun d n hd=>?_,fun l hl=>?_⟩
 ·rcases List.mem_append.1 hd with hd|hd
  ·unfold hpPair at hd
   split at hd
   ·simp only [List.mem_singleton,Prod.mk.injEq] at hd
    exact .inr hd
   ·simp at hd
  ·have:=List.all_eq_true.1 h _ hd
   simp only [Bool.and_eq_true,Nat.blt_eq] at this
   exact .inl this
 ·unfold hpPair;rw [hl];simp
theorem hpPair_low (st:St):∀ x ∈ hpPair st,lowB≤x.2:=by
 intro x hx
 unfold hpPair at hx
 split at hx
 ·simp only [List.mem_singleton] at hx;subst hx;decide
 ·simp at hx
def Hd (m:List (Nat × Nat))(d n:Nat):Prop:=(d,n) ∈ m∨(HB≤d∧n=d)
theorem ren_heap {φ:Nat→Option Nat}{B:Obs}{d:Nat}{o:Ob}(hd:HB≤d)(h:Obs.get B d=some o):o.ren φ=o:=by
 rw [Obs.get_hi (by have:=HL_HB;omega)] at h
 rcases hiOf_some h with ⟨h1,_⟩|⟨i,y,_,_,h2⟩
 ·have:=HL_HB;omega
 ·rcases HE.ob_cases h2 with ⟨t,p,_,h⟩|⟨t,p,_,h⟩ <;> subst h <;> rfl
theorem get_of_hps {B B':Obs}{d:Nat}(hd:HB≤d)(h:Obs.hps B'=Obs.hps B):Obs.get B' d=Obs.get B d:=by
 obtain ⟨i,rfl⟩:∃ i,d=HB+i:=⟨d - HB,by omega⟩
 rw [get_heap,get_heap,h]

structure Handed (P:Program)(w:World)(Mo:Nat→Prop) (β:Beta)(st:St)(m:List (Nat × Nat))(extra os0:Obs)(Mo':Nat→Prop) (β':Beta):Prop where
 sub:∀ b,Mut Mo' β' os0 b→Mut Mo β st.B b
 ren:Ren P (look · m) w (Mut Mo β st.B) β st.B w (Mut Mo' β' os0) β' os0
 mine:∀ b,Mine β' os0 b→∃ d n c,Hd m d n∧(∃ o,Obs.get st.B d=some o)∧β d=some (b,c)
 notMo:∀ b,Mo' b ↔ (Mut Mo β st.B b∧¬ ∃ d n c,Hd m d n∧(∃ o,Obs.get st.B d=some o)∧β d=some (b,c))
 at_:∀ d n,(d,n) ∈ m→β' n=β d∧∃ o,Obs.get st.B d=some o∧Obs.get os0 n=some (o.ren (look · m))
 hps:Obs.hps os0=Obs.hps st.B
 hib:∀ d,HB≤d→β' d=β d
 ext:∀ x ∈ extra,Obs.get os0 x.1=some x.2∧β' x.1=none

theorem handed_rel {P:Program}{m:List (Nat × Nat)}{os extra:Obs} {β:Beta}(hm:HM st m)(hex:∀ x ∈ extra,x.1 < HL)(h1:handObs st m m=some os)(hn2:(m.map (·.2)++extra.map (·.1)).Nodup) :
  Handed P w Mo β st m extra (os++extra) (fun b=>Mut Mo β st.B b∧¬ ∃ d n c,Hd m d n∧(∃ o,Obs.get st.B d=some o)∧β d=some (b,c)) (fun n=>if HB≤n then β n else (look n (swap m)).bind β):=by
 obtain ⟨g1,g2,g3⟩:=handObs_get h1
 have hnd:((os++extra).map (·.1)).Nodup:=by rw [List.map_append,g1];exact hn2
 have hns:((swap m).map (·.1)).Nodup:=by rw [swap_fst];exact (List.nodup_append.1 hn2).1
 have hHB:=HL_HB
 have hlab:∀ d n,(d,n) ∈ m→¬ HB≤n∧¬ HB≤d:=fun d n hd=>by rcases hm.lab d n hd with ⟨h1,h2⟩|⟨h1,h2⟩ <;> omega
 have hat:∀ d n,(d,n) ∈ m→(if HB≤n then β n else (look n (swap m)).bind β)=β d∧∃ o,Obs.get st.B d=some o∧Obs.get (os++extra) n=some (o.ren (look · m)):=by
  intro d n hd
  refine ⟨by rw [if_neg (hlab d n hd).1,mem_look hns (mem_swap.2 hd)];rfl,?_⟩
  obtain ⟨o,k1,k2⟩:=g2 d n hd
  refine ⟨o,k1,?_⟩
  rcases hm.lab d n hd with ⟨h1,h2⟩|⟨h1,h2⟩
  ·exact Obs.mem_get h2 hnd (List.mem_append_left _ k2)
  ·subst h1;subst h2
   obtain ⟨l,rfl,_⟩:=Obs.hp_of k1
   exact Obs.get_hp (Obs.mem_get0 hnd (List.mem_append_left _ k2))
 have hhps:Obs.hps (os++extra)=Obs.hps st.B:=by
  by_cases hh:∃ l,Obs.get0 st.B HL=some (.hp l)
  ·obtain ⟨l,hl⟩:=hh
   obtain ⟨_,o,k1,k2⟩:=hat HL HL (hm.hp l hl)
   obtain ⟨l1,rfl,k3⟩:=Obs.hp_of k1
   obtain ⟨l2,k4,k5⟩:=Obs.hp_of k2
   have k4:Ob.hp l1=.hp l2:=k4
   injection k4 with k4;subst k4
   unfold Obs.hps;rw [k5,k3]
  ·have e1:Obs.hps st.B=[]:=by
    unfold Obs.hps hpsOf
    split
    ·rename_i l hl;exact absurd ⟨l,hl⟩ hh
    ·rfl
   have e2:Obs.hps (os++extra)=[]:=by
    unfold Obs.hps hpsOf
    split
    ·rename_i l hl
     exfalso
     rcases List.mem_append.1 (Obs.get0_mem hl) with h|h
     ·obtain ⟨d,o,k1,k2,k3⟩:=g3 _ _ h
      rcases hm.lab d HL k1 with ⟨_,h2⟩|⟨h2,_⟩
      ·omega
      ·subst h2
       obtain ⟨l1,_,k4⟩:=Obs.hp_of k2
       exact hh ⟨l1,k4⟩
     ·have:=hex _ h;simp only at this;omega
    ·rfl
   rw [e1,e2]
 have hmine:∀ b,Mine (fun n=>if HB≤n then β n else (look n (swap m)).bind β) (os++extra) b→∃ d n c,Hd m d n∧(∃ o,Obs.get st.B d=some o)∧β d=some (b,c):=by
  rintro b ⟨n,ob,c,k1,k2⟩
  by_cases hn:HB≤n
  ·simp only [if_pos hn] at k2
   rw [get_of_hps hn hhps] at k1
   exact ⟨n,n,c,.inr ⟨hn,rfl⟩,⟨ob,k1⟩,k2⟩
  ·simp only [if_neg hn] at k2
   cases hl:look n (swap m) with
   | none=>rw [hl] at k2;cases k2
   | some d =>
    rw [hl] at k2
    have hd:=mem_swap.1 (look_mem hl)
    obtain ⟨_,o,k3,_⟩:=hat d n hd
    exact ⟨d,n,c,.inl hd,⟨o,k3⟩,k2⟩
 refine ⟨?_,⟨?_,?_,?_,?_⟩,hmine,fun b=>Iff.rfl,hat,hhps,fun d hd=>if_pos hd,fun x hx=>⟨Obs.mem_get (hex x hx) hnd (List.mem_append_right _ hx),?_⟩⟩
 ·rintro b (hb|hb)
  ·exact hb.1
  ·obtain ⟨d,n,c,_,⟨o,ho⟩,hβ⟩:=hmine b hb
   exact .inr ⟨d,o,c,ho,hβ⟩
 ·intro b hb hlt
  refine ⟨?_,rfl⟩
  rintro (h|h)
  ·exact hb h.1
  ·obtain ⟨d,n,c,_,⟨o,ho⟩,hβ⟩:=hmine b h
   exact hb (.inr ⟨d,o,c,ho,hβ⟩)
 ·intro d e ob hφ ho
  obtain ⟨k1,o,k2,k3⟩:=hat d e (look_mem hφ)
  rw [ho] at k2;injection k2 with k2;subst k2
  exact ⟨_,k3,k1,fun q off hq=>by rw [offO_ren];exact hq,fun u l hl=>⟨l,row_ren _ hl,rfl⟩⟩
 ·intro i x hx
  exact ⟨by rw [hhps];exact hx.1,by simp only [if_pos (Nat.le_add_right HB i)];exact hx.2⟩
 ·intro d e hφ hd
  rcases hm.lab d e (look_mem hφ) with ⟨_,h⟩|⟨h,_⟩ <;> omega
 ·have:look x.1 (swap m)=none:=by
   cases hl:look x.1 (swap m) with
   | none=>rfl
   | some d =>
    exfalso
    have hm:=mem_swap.1 (look_mem hl)
    exact (List.nodup_append.1 hn2).2.2 _ (List.mem_map.2 ⟨_,hm,rfl⟩) _ (List.mem_map.2 ⟨_,hx,rfl⟩) rfl
  have hlt:=hex x hx
  simp only [if_neg (show ¬ HB≤x.1 by omega),this];rfl

theorem hpOut_rs {P:Program}{M:Nat→Prop} {β:Beta}{B:Obs}{t:TypeId}{s s':SV}{v:Value}(h:hpOut P t s=some s')(hs:RS P w M β B s v):∃ u p cs,s'=.hval u p∧Pack P u v cs∧RdH P w M (GH β B) u p cs:=by
 cases hs with
 | hval a b=>injection h with h;exact ⟨_,_,_,h.symm,a,b⟩
 | @hptr e i q b c off h1 h2 =>
  cases q with
  | cons _ _=>cases h
  | nil =>
   simp only [hpOut] at h
   cases hu:P.underlying t with
   | none=>rw [hu] at h;cases h
   | some d =>
    rw [hu] at h
    cases d with
    | pointer e' =>
     simp only at h
     obtain ⟨hc,h9⟩:=cond_some h
     clear h
     simp only [Bool.and_eq_true,beq_iff_eq] at hc
     injection h9 with h9
     have:off=0:=by injection h2 with h2;exact h2.symm
     subst this
     exact ⟨_,_,_,h9.symm,pack1 (by simp [isAggT,hu]),.ptr hc.2 hu h1⟩
    | _=>cases h
 | _=>cases h

theorem handAll_sound {m : List (Nat × Nat)} {f : FuncId} {β : Beta} (hR : Rel E.P Mo β st.T st.B a.tmps.toList w) {all os0 : Obs} {Mo' : Nat → Prop} {β' : Beta} (H : Handed E.P w Mo β st m all os0 Mo' β') :
    ∀ {i : Nat} {ts : List TypeId} {l l' : List SV} {ex : Obs}, handAll E st m f i ts l = some (l', ex) → (∀ x ∈ ex, x ∈ all) → l'.length = l.length ∧ (∀ x ∈ ex, ∃ e, x.2 = .row e [] ∧ e < E.P.types.size) ∧
      ∀ (k : Nat) (s s' : SV) (v : Value), l[k]? = some s → l'[k]? = some s' → RS E.P w (Mut Mo β st.B) β st.B s v → RS E.P w (Mut Mo' β' os0) β' os0 s' v
  | i, [], [], l', ex, h, _ => by
    simp only [handAll, Option.some.injEq, Prod.mk.injEq] at h
    obtain ⟨h1, h2⟩ := h
    subst h1; subst h2
    exact ⟨rfl, fun x hx => by simp at hx, fun k s s' v hs => by simp at hs⟩
  | _, [], _ :: _, _, _, h, _ => by simp [handAll] at h
  | _, _ :: _, [], _, _, h, _ => by simp [handAll] at h
  | i, t :: ts, s :: l, l', ex, h, hall => by
    unfold handAll at h
    cases h1 : handS E st m f t i s with
    | none => rw [h1] at h; cases h
    | some x =>
      cases h2 : handAll E st m f (i + 1) ts l with
      | none => rw [h1, h2] at h; cases h
      | some y =>
        rw [h1, h2] at h
        obtain ⟨s', ex1⟩ := x
        obtain ⟨l2, ex2⟩ := y
        replace h : (s' :: l2, ex1 ++ ex2) = (l', ex) := by injection h
        injection h with e1 e2
        subst e1; subst e2
        obtain ⟨g1, g2, g3⟩ := handAll_sound hR H h2 (fun x hx => hall x (List.mem_append_right _ hx))
        have hpass : ∀ {s : SV}, (s.pass E.P st false t).map (fun x => (x, ([] : Obs))) = some (s', ex1) → ex1 = [] ∧ ∀ v, RS E.P w (Mut Mo β st.B) β st.B s v → RS E.P w (Mut Mo' β' os0) β' os0 s' v := by
          intro s hp
          cases hq : s.pass E.P st false t with
          | none => rw [hq] at hp; cases hp
          | some s2 =>
            rw [hq] at hp
            simp only [Option.map_some, Option.some.injEq, Prod.mk.injEq] at hp
            obtain ⟨e1, e2⟩ := hp
            subst e1
            refine ⟨e2.symm, fun v hv => ?_⟩
            exact RS.noObs (fun b hb _ => hb) (pass_sound hR (M' := Mut Mo' β' os0) H.sub (fun h => by cases h) hv hq (β' := β'))
        have here : (∀ x ∈ ex1, ∃ e, x.2 = .row e [] ∧ e < E.P.types.size) ∧ ∀ v, RS E.P w (Mut Mo β st.B) β st.B s v → RS E.P w (Mut Mo' β' os0) β' os0 s' v := by
          cases s with
          | ptr d q =>
            simp only [handS, Option.some.injEq, Prod.mk.injEq] at h1
            obtain ⟨e1, e2⟩ := h1
            subst e1; subst e2
            exact ⟨fun x hx => by simp at hx, fun v hv => hv.ren H.ren⟩
          | fn g caps =>
            simp only [handS, Option.some.injEq, Prod.mk.injEq] at h1
            obtain ⟨e1, e2⟩ := h1
            subst e1; subst e2
            exact ⟨fun x hx => by simp at hx, fun v hv => hv.ren H.ren⟩
          | own u d =>
            simp only [handS] at h1
            obtain ⟨_, h1⟩ := cond_some h1
            simp only [Option.some.injEq, Prod.mk.injEq] at h1
            obtain ⟨e1, e2⟩ := h1
            subst e1; subst e2
            exact ⟨fun x hx => by simp at hx, fun v hv => hv.ren H.ren⟩
          | nils =>
            simp only [handS] at h1
            cases ho : E.ownPar f i with
            | false =>
              rw [ho, cond_false] at h1
              obtain ⟨e1, e2⟩ := hpass h1
              exact ⟨fun x hx => by rw [e1] at hx; simp at hx, e2⟩
            | true =>
              rw [ho, cond_true] at h1
              cases hu : E.P.underlying t with
              | none => rw [hu] at h1; cases h1
              | some dd =>
                rw [hu] at h1
                cases dd with
                | slice e =>
                  simp only at h1
                  obtain ⟨he, h1⟩ := cond_some h1
                  simp only [Option.some.injEq, Prod.mk.injEq] at h1
                  obtain ⟨e1, e2⟩ := h1
                  subst e1; subst e2
                  refine ⟨fun x hx => ?_, fun v hv => ?_⟩
                  · simp only [List.mem_singleton] at hx
                    subst hx; exact ⟨e, rfl, by simpa using he⟩
                  · cases hv with
                    | nils =>
                      obtain ⟨k1, k2⟩ := H.ext (lowB * (i + 1), .row e []) (hall _ (by simp))
                      exact .ownNil hu k1 k2
                | _ => cases h1
          | hval u p =>
            simp only [handS, hpOut, Option.map_some, Option.some.injEq, Prod.mk.injEq] at h1
            obtain ⟨e1, e2⟩ := h1
            subst e1; subst e2
            exact ⟨fun x hx => by simp at hx, fun v hv => by
              cases hv with
              | hval a b => exact .hval a (b.mono H.ren.st H.ren.hp)⟩
          | hptr u j q =>
            simp only [handS] at h1
            cases hq : hpOut E.P t (.hptr u j q) with
            | none => rw [hq] at h1; cases h1
            | some s2 =>
              rw [hq] at h1
              simp only [Option.map_some, Option.some.injEq, Prod.mk.injEq] at h1
              obtain ⟨e1, e2⟩ := h1
              subst e1; subst e2
              exact ⟨fun x hx => by simp at hx, fun v hv => by
                obtain ⟨u', p', cs, rfl, g1, g2⟩ := hpOut_rs hq hv
                exact .hval g1 (g2.mono H.ren.st H.ren.hp)⟩
          | _ => first
            | (cases h1; done)
            | (obtain ⟨e1, e2⟩ := hpass h1
               exact ⟨fun x hx => by rw [e1] at hx; simp at hx, e2⟩)
        refine ⟨by simp [g1], fun x hx => ?_, fun k y y' v hy hy' hv => ?_⟩
        · rcases List.mem_append.1 hx with h | h
          · exact here.1 x h
          · exact g2 x h
        · cases k with
          | zero =>
            replace hy : s = y := by simpa using hy
            replace hy' : s' = y' := by simpa using hy'
            subst hy hy'; exact here.2 v hv
          | succ k => exact g3 k y y' v (by simpa using hy) (by simpa using hy') hv

theorem handed_start {f:FuncId}{m:List (Nat × Nat)}{ts:List TypeId}{args l:List SV}{os extra:Obs} {β:Beta}{vs:List Value}(hR:Rel E.P Mo β st.T st.B a.tmps.toList w)(hm:HM st m)(hex:∀ x ∈ extra,x.1 < HL)(h1:handObs st m m=some os)(h2:handAll E st m f 0 ts args=some (l,extra))(hn1:(m.map (·.1)).Nodup)(hn2:(m.map (·.2)++extra.map (·.1)).Nodup)
  (hlen:vs.length=args.length)(hargs:∀ (i:Nat)(s:SV)(v:Value),args[i]?=some s→vs[i]?=some v→RS E.P w (Mut Mo β st.B) β st.B s v) :
  ∃ Mo' β',Handed E.P w Mo β st m extra (os++extra) Mo' β'∧Rel E.P Mo' β' l (os++extra) vs w:=by
 have H:=handed_rel (P:=E.P) (w:=w) (Mo:=Mo) (β:=β) hm hex h1 hn2
 have hHB:=HL_HB
 obtain ⟨s1,s2,s3⟩:=handAll_sound hR H h2 (fun x hx=>hx)
 refine ⟨_,_,H,?_⟩
 generalize hMo':(fun b=>Mut Mo β st.B b∧¬ ∃ d n c,Hd m d n∧(∃ o,Obs.get st.B d=some o)∧β d=some (b,c))=Mo' at H s3
 generalize hβ':(fun n=>if HB≤n then β n else (look n (swap m)).bind β)=β' at H s3
 obtain ⟨g1,g2,g3⟩:=handObs_get h1
 have hfrom:∀ n o',Obs.get (os++extra) n=some o'→(∃ d o,Hd m d n∧Obs.get st.B d=some o∧o'=o.ren (look · m)∧β' n=β d)∨(β' n=none∧∃ e,o'=.row e []∧e < E.P.types.size):=by
  intro n o' hg
  by_cases hn:HB≤n
  ·rw [get_of_hps hn H.hps] at hg
   exact .inl ⟨n,o',.inr ⟨hn,rfl⟩,hg,(ren_heap hn hg).symm,H.hib n hn⟩
  rcases List.mem_append.1 (Obs.get_mem (by omega) hg) with h|h
  ·obtain ⟨d,o,k1,k2,k3⟩:=g3 n o' h
   exact .inl ⟨d,o,.inl k1,k2,k3,(H.at_ d n k1).1⟩
  ·obtain ⟨e,he,hlt⟩:=s2 _ h
   exact .inr ⟨(H.ext _ h).2,e,he,hlt⟩
 refine ⟨hlen.trans s1.symm,fun i s v hs hv=>?_,fun n o' hg=>?_,fun n o n' o' b c c' k1 k2 k3 k4=>?_,fun n o b c k1 k2=>?_,fun n o b c k1 k2 hb=>?_,fun b hb=>?_,hR.gl.sub ?_⟩
 rotate_right
 ·rintro b (h|⟨n,o,c,k1,k2⟩)
  ·exact ((H.notMo b).1 h).1
  ·rcases hfrom n o k1 with ⟨d,x,m1,m2,_,m4⟩|⟨m1,_⟩
   ·rw [m4] at k2;exact .inr ⟨d,x,c,m2,k2⟩
   ·rw [m1] at k2;cases k2
 ·have hil:=get_lt hs
  rw [s1] at hil
  have hx:=List.getElem?_eq_getElem hil
  exact s3 i _ s v hx hs (hargs i _ v hx hv)
 ·rcases hfrom n o' hg with ⟨d,o,k1,k2,rfl,k4⟩|⟨k1,e,rfl,k3⟩
  ·exact (hR.ob d o k2).ren H.ren k4 (fun _ _ _=>rfl)
  ·exact ⟨k3,.inl ⟨k1,rfl⟩⟩
 ·rcases hfrom n o k1 with ⟨d,x,m1,m2,_,m4⟩|⟨m1,_⟩
  ·rcases hfrom n' o' k2 with ⟨d',x',m1',m2',_,m4'⟩|⟨m1',_⟩
   ·rw [m4] at k3
    rw [m4'] at k4
    have:=hR.inj d x d' x' b c c' m2 m2' k3 k4
    subst this
    rcases m1 with m1|⟨m1,m3⟩ <;> rcases m1' with m1'|⟨m1',m3'⟩
    ·have e1:=mem_look hn1 m1
     have e2:=mem_look hn1 m1'
     rw [e1] at e2;injection e2
    ·rcases hm.lab _ _ m1 with ⟨h1,h2⟩|⟨h1,h2⟩ <;> omega
    ·rcases hm.lab _ _ m1' with ⟨h1,h2⟩|⟨h1,h2⟩ <;> omega
    ·omega
   ·rw [m1'] at k4;cases k4
  ·rw [m1] at k3;cases k3
 ·rcases hfrom n o k1 with ⟨d,x,m1,m2,_,m4⟩|⟨m1,_⟩
  ·rw [m4] at k2;exact hR.lt d x b c m2 k2
  ·rw [m1] at k2;cases k2
 ·rcases hfrom n o k1 with ⟨d,x,m1,m2,_,m4⟩|⟨m1,_⟩
  ·rw [m4] at k2
   exact ((H.notMo b).1 hb).2 ⟨d,n,c,m1,⟨_,m2⟩,k2⟩
  ·rw [m1] at k2;cases k2
 ·rcases ((H.notMo b).1 hb).1 with h|⟨d,o,c,k1,k2⟩
  ·exact hR.mo b h
  ·exact hR.lt d o b c k1 k2

end
end Go.X
namespace Go.X
open Go
section
variable {E : Env} {w0 : World} {F : Foot} {Mo : Nat → Prop} {st : St} {a : Act} {w : World}

theorem retireAll_rel {P:Program} {β:Beta}{vs:List Value}:∀ (l:List Nat){st:St},Rel P Mo β st.T st.B vs w→Kp w0 F β st.B w→Rel P Mo β (retireAll l st).T (retireAll l st).B vs w∧Kp w0 F β (retireAll l st).B w
 | [],_,h,k=>⟨h,k⟩
 | d :: l,_,h,k=>retireAll_rel l (h.retire d) (k.retire d)
theorem retireAll_kept:∀ (l:List Nat){st:St}{n:Nat}{o:Ob},Obs.get (retireAll l st).B n=some o→(n < HL→n ∉ l)∧∃ o',Obs.get st.B n=some o'
 | [],st,n,o,h=>⟨fun _=>by simp,o,h⟩
 | d :: l,st,n,o,h=>by
  obtain ⟨h1,o',h2⟩:=retireAll_kept l h
  obtain ⟨h3,h4⟩:=retire_get st d n o' h2
  refine ⟨fun hn=>?_,h4⟩
  rw [List.mem_cons,not_or]
  exact ⟨fun h=>h3 (by rw [←h];exact hn) h.symm,h1 hn⟩
theorem retireAll_len:∀ (l:List Nat)(st:St),(retireAll l st).T.length=st.T.length
 | [],_=>rfl
 | d :: l,st=>by
  show (retireAll l (st.retire d)).T.length=_
  rw [retireAll_len l]
  by_cases hd:d < HL
  ·rw [retire_lo hd]
   cases Obs.get st.B d with
   | none=>rfl
   | some o=>exact SV.drops_len _ _ _
  ·rw [retire_hi hd]
theorem hpKept_spec {B':Obs}{m:List (Nat × Nat)}(h:hpKept st B'=true):(HL,HL) ∈ hpPair st++m∨Obs.get0 B' HL=none:=by
 unfold hpKept at h
 split at h
 ·exact .inr (by simpa using h)
 ·rename_i hne
  left
  unfold hpPair at hne ⊢
  split
  ·simp
  ·rename_i hx
   exfalso;apply hne
   split
   ·rename_i l hl;exact absurd hl (hx l)
   ·rfl
theorem get_row_low {B:Obs}{d:Nat}{o:Ob}(h:Obs.get B d=some o)(hh:∀ l,o≠.hp l)(hv:∀ t p,o≠.hvar t p)(hr:∀ t p,o≠.hrow t p):d < HL:=by
 by_cases hd:d < HL
 ·exact hd
 ·exfalso
  rw [Obs.get_hi hd] at h
  rcases hiOf_some h with ⟨_,l,_,h2⟩|⟨i,y,_,_,h2⟩
  ·exact hh l h2
  ·rcases HE.ob_cases h2 with ⟨t,p,_,h⟩|⟨t,p,_,h⟩
   ·exact hv t p h
   ·exact hr t p h

theorem back_rel {β:Beta}(hR:Rel E.P Mo β st.T st.B a.tmps.toList w)(hk:Kp w0 F β st.B w){m nw:List (Nat × Nat)}{extra os0:Obs}{Mo':Nat→Prop} {β' β'':Beta}(H:Handed E.P w Mo β st m extra os0 Mo' β')(hlow:∀ x ∈ m,lowB≤x.2)(hm:HM st m)
  (hn1:(m.map (·.1)).Nodup)(hn2:(m.map (·.2)).Nodup){T':List SV}{B':Obs}{rvs:List Value}{w':World}(hR':Rel E.P Mo' β'' T' B' rvs w')(hk':Kp w (footOf β' os0) β'' B' w')
  (hbox:boxKept st B' m=true)(hnw:nw=[]∨∃ n dl,nw=[(n,dl)]∧n ∉ m.map (·.2)∧dl ∉ m.map (·.1)∧Obs.get st.B dl=none∧dl < lowB∧n < HL)(hhp:(HL,HL) ∈ m∨Obs.get0 B' HL=none) :
  ∃ βn,Rel E.P Mo βn (SV.rens (keepφ st m) st.T) (backAll (look · (nw++swap m)) B' (nw++swap m) (Obs.ren (keepφ st m) st.B)) a.tmps.toList w' ∧
   Kp w0 F βn (backAll (look · (nw++swap m)) B' (nw++swap m) (Obs.ren (keepφ st m) st.B)) w' ∧
   ∀ s v,RS E.P w' (Mut Mo' β'' B') β'' B' s v→RS E.P w' (Mut Mo βn (backAll (look · (nw++swap m)) B' (nw++swap m) (Obs.ren (keepφ st m) st.B))) βn (backAll (look · (nw++swap m)) B' (nw++swap m) (Obs.ren (keepφ st m) st.B)) (s.ren (look · (nw++swap m))) v:=by
 have hi1:((nw++swap m).map (·.1)).Nodup:=by
  rw [List.map_append,swap_fst]
  rcases hnw with rfl|⟨n,dl,rfl,h1,_⟩
  ·simpa using hn2
  ·exact List.nodup_append.2 ⟨by simp,hn2,fun x hx y hy hxy=>by simp at hx;subst hx;subst hxy;exact h1 hy⟩
 have hi2:((nw++swap m).map (·.2)).Nodup:=by
  rw [List.map_append,swap_snd]
  rcases hnw with rfl|⟨n,dl,rfl,_,h1,_⟩
  ·simpa using hn1
  ·exact List.nodup_append.2 ⟨by simp,hn1,fun x hx y hy hxy=>by simp at hx;subst hx;subst hxy;exact h1 hy⟩
 have hnewfree:∀ d,d ∈ (nw++swap m).map (·.2)→d ∉ m.map (·.1)→Obs.get st.B d=none∧d < lowB:=by
  intro d hd hdm
  rw [List.map_append,swap_snd] at hd
  rcases List.mem_append.1 hd with h|h
  ·rcases hnw with rfl|⟨n,dl,rfl,_,_,h1,h2,_⟩
   ·simp at h
   ·simp at h;subst h;exact ⟨h1,h2⟩
  ·exact absurd h hdm
 have hinvlab:∀ n d,(n,d) ∈ nw++swap m→(n < HL∧d < HL)∨(n=HL∧d=HL):=by
  intro n d h
  rcases List.mem_append.1 h with h|h
  ·rcases hnw with rfl|⟨n',dl,rfl,_,_,_,h2,h3⟩
   ·simp at h
   ·simp only [List.mem_singleton,Prod.mk.injEq] at h
    obtain ⟨rfl,rfl⟩:=h
    exact .inl ⟨h3,lowHL h2⟩
  ·rcases hm.lab d n (mem_swap.1 h) with ⟨h1,h2⟩|⟨h1,h2⟩
   ·exact .inl ⟨h2,h1⟩
   ·exact .inr ⟨h2,h1⟩
 generalize hinv:nw++swap m=inv at *
 have hHB:=HL_HB
 have hminv:∀ d n,(d,n) ∈ m→(n,d) ∈ inv:=fun d n h=>by rw [←hinv];exact List.mem_append_right _ (mem_swap.2 h)
 obtain ⟨gb1,gb2⟩:=backAll_get (φ:=(look · inv)) (B':=B') inv (Obs.ren (keepφ st m) st.B) hi2
 generalize hBn:backAll (look · inv) B' inv (Obs.ren (keepφ st m) st.B)=Bn at *
 have hget:∀ n d,(n,d) ∈ inv→Obs.get Bn d=(Obs.get B' n).map (Ob.ren (look · inv)):=by
  intro n d h
  rcases hinvlab n d h with ⟨h1,h2⟩|⟨h1,h2⟩
  ·rw [Obs.get_lo h2];exact gb2 n d h
  ·subst h1;subst h2
   have e:=gb2 HL HL h
   rw [Obs.get_hi (Nat.lt_irrefl _),hiOf_HL,e]
   cases hg:Obs.get B' HL with
   | none=>rfl
   | some o =>
    obtain ⟨l,rfl,_⟩:=Obs.hp_of hg
    rfl
 have hhps:Obs.hps Bn=Obs.hps B':=by
  by_cases hin:(HL,HL) ∈ inv
  ·have e:=gb2 HL HL hin
   unfold Obs.hps
   rw [e]
   cases hg:Obs.get B' HL with
   | none =>
    rw [Obs.get_hi (Nat.lt_irrefl _),hiOf_HL] at hg
    unfold hpsOf
    simp only [Option.map_none]
    split at hg
    ·cases hg
    ·rename_i hx
     split
     ·rename_i l hl;exact absurd hl (hx l)
     ·rfl
   | some o =>
    obtain ⟨l,rfl,h2⟩:=Obs.hp_of hg
    rw [h2];rfl
  ·have hnm:(HL,HL) ∉ m:=fun h=>hin (hminv _ _ h)
   have e1:Obs.get0 B' HL=none:=hhp.resolve_left hnm
   have e2:HL ∉ inv.map (·.2):=by
    intro h
    obtain ⟨⟨n,d⟩,h1,h2⟩:=List.mem_map.1 h
    simp only at h2;subst h2
    rcases hinvlab n _ h1 with ⟨_,h2⟩|⟨h2,_⟩
    ·omega
    ·subst h2;exact hin h1
   unfold Obs.hps
   rw [gb1 HL e2,e1,←Obs.hps,Obs.hps_ren]
   unfold Obs.hps hpsOf
   split
   ·rename_i l hl;exact absurd (hm.hp l hl) hnm
   ·rfl
 let βn:Beta:=fun d=>if HB≤d then β'' d else match look d (swap inv) with|some n=>β'' n|none=>β d
 have hsw:((swap inv).map (·.1)).Nodup:=by rw [swap_fst];exact hi2
 have hβhi:∀ d,HB≤d→βn d=β'' d:=fun d hd=>if_pos hd
 have hβin:∀ n d,(n,d) ∈ inv→βn d=β'' n:=by
  intro n d h
  show (if HB≤d then β'' d else match look d (swap inv) with|some n=>β'' n|none=>β d)=_
  rw [if_neg (by rcases hinvlab n d h with ⟨h1,h2⟩|⟨h1,h2⟩ <;> omega),mem_look hsw (mem_swap.2 h)]
 have hβout:∀ d,d < HB→d ∉ inv.map (·.2)→βn d=β d:=by
  intro d hd h
  show (if HB≤d then β'' d else match look d (swap inv) with|some n=>β'' n|none=>β d)=_
  rw [if_neg (by omega)]
  cases hl:look d (swap inv) with
  | none=>rfl
  | some n=>exact absurd (List.mem_map.2 ⟨_,mem_swap.1 (look_mem hl),rfl⟩) h
 have hmout:∀ d,d ∉ inv.map (·.2)→d ∉ m.map (·.1):=fun d h hd=>by
  obtain ⟨⟨d',n⟩,h1,h2⟩:=List.mem_map.1 hd
  simp only at h2;subst h2
  exact h (List.mem_map.2 ⟨_,hminv _ _ h1,rfl⟩)
 have hgout:∀ d,d < HB→d ∉ inv.map (·.2)→Obs.get Bn d=(Obs.get st.B d).map (Ob.ren (keepφ st m)):=by
  intro d hd h
  by_cases hl:d < HL
  ·rw [Obs.get_lo hl,Obs.get_lo hl,gb1 d h,Obs.get0_ren]
  ·by_cases he:d=HL
   ·subst he
    rw [Obs.get_hi hl,gb1 _ h,←Obs.get_hi hl,Obs.get_ren]
   ·have hno:∀ B:Obs,Obs.get B d=none:=by
     intro B
     rw [Obs.get_hi hl]
     cases hx:hiOf (Obs.get0 B HL) d with
     | none=>rfl
     | some o =>
      rcases hiOf_some hx with ⟨h1,_⟩|⟨i,y,h1,_⟩
      ·exact absurd h1 he
      ·omega
    rw [hno,hno];rfl
 have getn:∀ d o',Obs.get Bn d=some o'→(d < HB∧d ∉ inv.map (·.2)∧∃ o,Obs.get st.B d=some o∧o'=o.ren (keepφ st m)∧βn d=β d)∨(∃ n o,((n,d) ∈ inv∨(HB≤d∧n=d))∧Obs.get B' n=some o∧o'=o.ren (look · inv)∧βn d=β'' n):=by
  intro d o' h
  by_cases hdb:HB≤d
  ·rw [get_of_hps hdb hhps] at h
   exact .inr ⟨d,o',.inr ⟨hdb,rfl⟩,h,(ren_heap hdb h).symm,hβhi d hdb⟩
  by_cases hd:d ∈ inv.map (·.2)
  ·obtain ⟨⟨n,d'⟩,h1,h2⟩:=List.mem_map.1 hd
   simp only at h2;subst h2
   rw [hget n d' h1] at h
   cases hg:Obs.get B' n with
   | none=>rw [hg] at h;cases h
   | some o=>rw [hg] at h;injection h with h;exact .inr ⟨n,o,.inl h1,hg,h.symm,hβin n d' h1⟩
  ·rw [hgout d (by omega) hd] at h
   cases hg:Obs.get st.B d with
   | none=>rw [hg] at h;cases h
   | some o=>rw [hg] at h;injection h with h;exact .inl ⟨by omega,hd,o,rfl,h.symm,hβout d (by omega) hd⟩
 have hothers:∀ d o b c,d < HB→d ∉ inv.map (·.2)→Obs.get st.B d=some o→β d=some (b,c)→Mo' b:=by
  intro d o b c hdb hd ho hβ
  refine (H.notMo b).2 ⟨.inr ⟨d,o,c,ho,hβ⟩,?_⟩
  rintro ⟨d',n,c',h1,⟨o',h3⟩,h2⟩
  have:=hR.inj d o d' o' b c c' ho h3 hβ h2
  subst this
  rcases h1 with h1|⟨h1,_⟩
  ·exact hmout d hd (List.mem_map.2 ⟨_,h1,rfl⟩)
  ·omega
 have hMoMo:∀ b,Mo b→Mo' b:=by
  intro b hb
  refine (H.notMo b).2 ⟨.inl hb,?_⟩
  rintro ⟨d',n,c',h1,⟨o',h3⟩,h2⟩
  exact hR.out d' o' b c' h3 h2 hb
 have hF1:∀ b,Mut Mo βn Bn b→Mut Mo' β'' B' b:=by
  rintro b (h|⟨d,o',c,h1,h2⟩)
  ·exact .inl (hMoMo b h)
  ·rcases getn d o' h1 with ⟨k0,k1,o,k2,_,k4⟩|⟨n,o,k1,k2,_,k4⟩
   ·rw [k4] at h2;exact .inl (hothers d o b c k0 k1 k2 h2)
   ·rw [k4] at h2;exact .inr ⟨n,o,c,k2,h2⟩
 have hmine:∀ b,Mine β' os0 b→Mine β st.B b:=by
  intro b hb
  obtain ⟨d,n,c,_,⟨o,ho⟩,h2⟩:=H.mine b hb
  exact ⟨d,o,c,ho,h2⟩
 have hF2:Stable w (Mut Mo β st.B) w' (Mut Mo βn Bn):=by
  intro b hb hlt
  refine ⟨fun h=>?_,hk'.old b hlt (fun h=>hb (.inr (hmine b h)))⟩
  rcases hF1 b h with h|h
  ·exact hb ((H.notMo b).1 h).1
  ·rcases hk'.mine b h with h|h
   ·exact hb (.inr (hmine b h))
   ·omega
 have ren1:Ren E.P (look · inv) w' (Mut Mo' β'' B') β'' B' w' (Mut Mo βn Bn) βn Bn:=by
  refine ⟨fun b hb _=>⟨fun h=>hb (hF1 b h),rfl⟩,fun n d ob hφ ho=>?_,fun i x hx=>⟨by rw [hhps];exact hx.1,(hβhi _ (Nat.le_add_right HB i)).trans hx.2⟩,fun n d hφ hn=>by rcases hinvlab n d (look_mem hφ) with ⟨_,h⟩|⟨h,_⟩ <;> omega⟩
  have hm:=look_mem hφ
  refine ⟨ob.ren (look · inv),by rw [hget n d hm,ho];rfl,hβin n d hm,fun q off hq=>by rw [offO_ren];exact hq,fun u l hl=>⟨l,row_ren _ hl,rfl⟩⟩
 have hstay:∀ d n t s,(d,n) ∈ m→Obs.get st.B d=some (.box t s)→∃ s',Obs.get B' n=some (.box t s')∧β'' n=β d:=by
  intro d n t s hdn ho
  obtain ⟨o',ho'⟩:=boxKept_spec hbox d n t s hdn ho
  obtain ⟨k1,o,k2,k3⟩:=H.at_ d n hdn
  have hdl:d < HL:=get_row_low ho (fun _ h=>by cases h) (fun _ _ h=>by cases h) (fun _ _ h=>by cases h)
  have hnl2:n < HL:=by rcases hm.lab d n hdn with ⟨_,h⟩|⟨h,_⟩ <;> omega
  rw [ho] at k2;injection k2 with k2;subst k2
  obtain ⟨b,c,_,_,_,hb,_⟩:=hR.ob d _ ho
  have hnl:¬ (n < lowB∨HL≤n):=by have:=hlow _ hdn;simp only at this;omega
  have hfoot:(footOf β' os0).box n=some (t,(b,c)):=by
   unfold footOf
   simp only
   rw [if_neg hnl,k3,k1,hb];rfl
  obtain ⟨⟨s',rfl⟩,h2⟩:=hk'.stay n t _ o' hfoot ho'
  exact ⟨s',ho',by rw [h2,hb]⟩
 have ren2:Ren E.P (keepφ st m) w (Mut Mo β st.B) β st.B w' (Mut Mo βn Bn) βn Bn:=by
  refine ⟨hF2,fun d e ob hφ ho=>?_,fun i x hx=>?_,fun d e hφ hd=>?_⟩
  rotate_left
  rotate_left
  ·unfold keepφ at hφ
   rw [show d.blt HL=true by rw [Nat.blt_eq];exact hd] at hφ
   simp only [Bool.not_true,cond_false] at hφ
   split at hφ
   ·injection hφ with hφ;subst hφ;exact hd
   ·cases hφ
   ·injection hφ with hφ;subst hφ;exact hd
  rotate_right
  ·have g:=hk'.hpk i x (H.ren.hp i x hx)
   exact ⟨by rw [hhps];exact g.1,(hβhi _ (Nat.le_add_right HB i)).trans g.2⟩
  have hdl:d < HL:=by
   unfold keepφ at hφ
   by_cases hd:d < HL
   ·exact hd
   ·rw [show d.blt HL=false by rw [Bool.eq_false_iff,ne_eq,Nat.blt_eq];exact hd] at hφ;cases hφ
  unfold keepφ at hφ
  rw [show d.blt HL=true by rw [Nat.blt_eq];exact hdl] at hφ
  simp only [Bool.not_true,cond_false] at hφ
  by_cases hd:d ∈ m.map (·.1)
  ·obtain ⟨⟨d',n⟩,h1,h2⟩:=List.mem_map.1 hd
   simp only at h2;subst h2
   rw [mem_look hn1 h1,ho] at hφ
   cases ob with
   | row _ _=>cases hφ
   | map _ _=>cases hφ
   | hp _=>cases hφ
   | hvar _ _=>cases hφ
   | hrow _ _=>cases hφ
   | box t s =>
    replace hφ:d'=e:=by injection hφ
    subst hφ
    obtain ⟨s',k1,k2⟩:=hstay d' n t s h1 ho
    refine ⟨(Ob.box t s').ren (look · inv),by rw [hget n d' (hminv _ _ h1),k1];rfl,(hβin n d' (hminv _ _ h1)).trans k2,fun q off hq=>hq,fun u l hl=>by cases hl⟩
  ·have hdo:d ∉ inv.map (·.2):=fun h=>by
    have:=(hnewfree d h hd).1
    rw [ho] at this;cases this
   have he:d=e:=by
    split at hφ
    ·injection hφ
    ·cases hφ
    ·injection hφ
   subst he
   exact ⟨ob.ren (keepφ st m),by rw [hgout d (by omega) hdo,ho];rfl,hβout d (by omega) hdo,fun q off hq=>by rw [offO_ren];exact hq,fun u l hl=>⟨l,row_ren _ hl,rfl⟩⟩
 refine ⟨βn,⟨?_,?_,?_,?_,?_,?_,?_,?_⟩,⟨?_,?_,?_,?_,?_,?_,?_,fun i x hx=>ren2.hp i x (hk.hpk i x hx)⟩,fun s v hs=>hs.ren ren1⟩
 ·rw [SV.rens_len];exact hR.len
 ·intro i s v hs hv
  obtain ⟨s0,h1,rfl⟩:=ren_map hs
  exact (hR.slot i s0 v h1 hv).ren ren2
 ·intro d o' h
  rcases getn d o' h with ⟨k0,k1,o,k2,rfl,k4⟩|⟨n,o,k1,k2,rfl,k4⟩
  ·refine (hR.ob d o k2).ren ren2 k4 (fun b c hb=>?_)
   have hlt:=hR.lt d o b c k2 hb
   refine hk'.old b hlt (fun h=>?_)
   exact ((H.notMo b).1 (hothers d o b c k0 k1 k2 hb)).2 (H.mine b h)
  ·exact (hR'.ob n o k2).ren ren1 k4 (fun _ _ _=>rfl)
 ·intro d o d' o' b c c' h h' hb hb'
  rcases getn d o h with ⟨k0,k1,x,k2,_,k4⟩|⟨n,x,k1,k2,_,k4⟩ <;> rcases getn d' o' h' with ⟨k0',k1',x',k2',_,k4'⟩|⟨n',x',k1',k2',_,k4'⟩ <;> rw [k4] at hb <;> rw [k4'] at hb'
  ·exact hR.inj d x d' x' b c c' k2 k2' hb hb'
  ·exact absurd (hothers d x b c k0 k1 k2 hb) (hR'.out n' x' b c' k2' hb')
  ·exact absurd (hothers d' x' b c' k0' k1' k2' hb') (hR'.out n x b c k2 hb)
  ·have:=hR'.inj n x n' x' b c c' k2 k2' hb hb'
   subst this
   rcases k1 with k1|⟨k1,k5⟩ <;> rcases k1' with k1'|⟨k1',k5'⟩
   ·have e1:=mem_look hi1 k1
    have e2:=mem_look hi1 k1'
    rw [e1] at e2;injection e2
   ·rcases hinvlab _ _ k1 with ⟨h1,h2⟩|⟨h1,h2⟩ <;> omega
   ·rcases hinvlab _ _ k1' with ⟨h1,h2⟩|⟨h1,h2⟩ <;> omega
   ·omega
 ·intro d o b c h hb
  rcases getn d o h with ⟨_,k1,x,k2,_,k4⟩|⟨n,x,k1,k2,_,k4⟩ <;> rw [k4] at hb
  ·exact Nat.lt_of_lt_of_le (hR.lt d x b c k2 hb) hk'.size
  ·exact hR'.lt n x b c k2 hb
 ·intro d o b c h hb
  rcases getn d o h with ⟨_,k1,x,k2,_,k4⟩|⟨n,x,k1,k2,_,k4⟩ <;> rw [k4] at hb
  ·exact hR.out d x b c k2 hb
  ·exact fun hmo=>hR'.out n x b c k2 hb (hMoMo b hmo)
 ·intro b hb
  exact Nat.lt_of_lt_of_le (hR.mo b hb) hk'.size
 ·intro g e
  obtain ⟨g1,_⟩:=hR.gl g e
  obtain ⟨g2,g3⟩:=hR'.gl g e
  refine ⟨?_,g3⟩
  rintro (h|⟨d,o,c,h,hb⟩)
  ·exact g1 (.inl h)
  ·rcases getn d o h with ⟨_,k1,x,k2,_,k4⟩|⟨n,x,k1,k2,_,k4⟩ <;> rw [k4] at hb
   ·exact g1 (.inr ⟨d,x,c,k2,hb⟩)
   ·exact g2 (.inr ⟨n,x,c,k2,hb⟩)
 ·exact Nat.le_trans hk.size hk'.size
 ·intro b hb hf
  rw [hk'.old b (Nat.lt_of_lt_of_le hb hk.size) (fun h=>?_)]
  ·exact hk.old b hb hf
  ·rcases hk.mine b (hmine b h) with h|h
   ·exact hf h
   ·omega
 ·rintro b ⟨d,o,c,h1,h2⟩
  rcases getn d o h1 with ⟨_,k1,x,k2,_,k4⟩|⟨n,x,k1,k2,_,k4⟩ <;> rw [k4] at h2
  ·exact hk.mine b ⟨d,x,c,k2,h2⟩
  ·rcases hk'.mine b ⟨n,x,c,k2,h2⟩ with h|h
   ·exact hk.mine b (hmine b h)
   ·exact .inr (Nat.le_trans hk.size h)
 ·exact hk'.os.trans hk.os
 ·exact hk'.output.trans hk.output
 ·intro d t b o hd ho
  rcases getn d o ho with ⟨_,k1,x,k2,rfl,k4⟩|⟨n,x,k1|⟨k1,_⟩,k2,rfl,k4⟩
  rotate_right
  ·rw [hk.low d (.inr (by omega))] at hd;cases hd
  ·obtain ⟨⟨s,rfl⟩,h2⟩:=hk.stay d t b x hd k2
   exact ⟨⟨_,rfl⟩,k4.trans h2⟩
  ·by_cases hdm:d ∈ m.map (·.1)
   ·obtain ⟨⟨d',n'⟩,h1,h2⟩:=List.mem_map.1 hdm
    simp only at h2;subst h2
    have hnn:n=n':=nodup_pair hi2 k1 (hminv _ _ h1)
    subst hnn
    obtain ⟨_,o2,k5,_⟩:=H.at_ d' n h1
    obtain ⟨⟨s,rfl⟩,h3⟩:=hk.stay d' t b o2 hd k5
    obtain ⟨s',k6,k7⟩:=hstay d' n t s h1 k5
    rw [k2] at k6;injection k6 with k6;subst k6
    exact ⟨⟨_,rfl⟩,k4.trans (k7.trans h3)⟩
   ·have:=(hnewfree d (List.mem_map.2 ⟨_,k1,rfl⟩) hdm).2
    rw [hk.low d (.inl this)] at hd;cases hd
 ·exact hk.low

theorem e_call {K:St→Option Out}{r:Out}(hC:OracleOk E.P E.C)(hdef:a.defers=[]) {β:Beta}(hR:Rel E.P Mo β st.T st.B a.tmps.toList w)(hk:Kp w0 F β st.B w){o:Oper}(hlo:o.dst.getD 0 < lowB){f:FuncId}{args:List SV}{vs:List Value}
  (hlen:vs.length=args.length)(hargs:∀ (i:Nat)(s:SV)(v:Value),args[i]?=some s→vs[i]?=some v→RS E.P w (Mut Mo β st.B) β st.B s v)
  (hrun:(execOp a.eval o).run E.P w=(callFunc f vs.toArray).run E.P w)(h:callE E o st f args K=some r):EOk E w0 F Mo o K r a w:=by
 unfold callE at h
 cases hf:E.P.funcs[f]? with
 | none=>rw [hf] at h;cases h
 | some fn =>
  rw [hf] at h
  simp only at h
  have hlow0:=handMap_low (E:=E) (st:=st) (f:=f) args 0
  generalize handMap E st f 0 args=mm at h hlow0
  have hlow:∀ x ∈ hpPair st++mm,lowB≤x.2:=fun x hx=>(List.mem_append.1 hx).elim (hpPair_low st x) (hlow0 x)
  have hhm:=fun h=>HM.of (st:=st) (m:=mm) h
  have hhk:=fun B'=>hpKept_spec (st:=st) (B':=B') (m:=mm)
  generalize hpPair st++mm=m at h hlow hhm hhk
  cases h2:handAll E st m f 0 (fn.params.toList++List.replicate fn.nfree 0) args with
  | none=>rw [h2] at h;cases h
  | some x =>
   obtain ⟨l,extra⟩:=x
   cases h1:handObs st m m with
   | none=>rw [h2,h1] at h;cases h
   | some os =>
    rw [h2,h1] at h
    simp only at h
    obtain ⟨hnd,h⟩:=cond_some h
    rw [Bool.and_eq_true,Bool.and_eq_true,Bool.and_eq_true] at hnd
    have hm:=hhm hnd.1.1
    have hex:∀ x ∈ extra,x.1 < HL:=fun x hx=>by have:=List.all_eq_true.1 hnd.1.2 x hx;rwa [Nat.blt_eq] at this
    have hn1:=nodupB_iff hnd.2.1
    have hn2:=nodupB_iff hnd.2.2
    rw [hC.par] at h
    cases hc:E.C f l (os++extra) some with
    | none=>rw [hc] at h;cases h
    | some r' =>
     rw [hc] at h
     simp only [Option.bind_some] at h
     obtain ⟨hb,h⟩:=cond_some h
     rw [Bool.and_eq_true,Bool.and_eq_true] at hb
     obtain ⟨⟨hbox,hhp⟩,hnw⟩:=hb
     simp only [Bool.and_eq_true,Bool.or_eq_true,Bool.not_eq_true',List.isEmpty_iff,Option.isNone_iff_eq_none,List.contains_eq_mem,decide_eq_false_iff_not] at hnw
     obtain ⟨Mo',β',H,hS⟩:=handed_start hR hm hex h1 h2 hn1 hn2 hlen hargs
     refine ⟨_,h,fun next Q hn=>?_⟩
     unfold Oper.wp
     rw [hrun]
     refine hC.ok f l (os++extra) r' hc Mo' β' vs w hS o a next Q fun rvs w' β'' hR' hk'=>hn _ _ ?_
     obtain ⟨hR2,hk2⟩:=retireAll_rel (st:={ T:=r'.1,B:=r'.2 }) ((r'.2.map (·.1)).filter fun n=>!((newRes m (o.dst.getD 0) r'.1++m.map fun x=>(x.2,x.1)).map (·.1)).contains n) hR' hk'
     have hnew:newRes m (o.dst.getD 0) r'.1=[]∨∃ n dl,newRes m (o.dst.getD 0) r'.1=[(n,dl)]∧n ∉ m.map (·.2)∧dl ∉ m.map (·.1)∧Obs.get st.B dl=none∧dl < lowB∧n < HL:=by
      rcases hnw with h|⟨k1,k2⟩
      ·exact .inl h
      ·by_cases hone:∃ u n,r'.1=[.own u n]
       ·obtain ⟨u,n,hone⟩:=hone
        rw [hone]
        simp only [newRes]
        by_cases hc:n ∈ m.map (·.2)
        ·left
         rw [show (m.map (·.2)).contains n=true by simpa using hc];rfl
        ·right
         rw [show (m.map (·.2)).contains n=false by simpa using hc]
         refine ⟨n,_,rfl,hc,k1,k2,hlo,?_⟩
         have hl1:=hR'.len
         rw [hone] at hl1
         obtain ⟨v,rfl⟩:∃ v,rvs=[v]:=by
          match rvs,hl1 with
          | [v],_=>exact ⟨v,rfl⟩
         have hs:=hR'.slot 0 (.own u n) v (by rw [hone];rfl) rfl
         cases hs with
         | own _ g _ _=>exact get_row_low g (fun _ h=>by cases h) (fun _ _ h=>by cases h) (fun _ _ h=>by cases h)
         | ownNil _ g _=>exact get_row_low g (fun _ h=>by cases h) (fun _ _ h=>by cases h) (fun _ _ h=>by cases h)
       ·left
        unfold newRes
        split
        ·rename_i u n hh;exact absurd ⟨u,n,hh⟩ hone
        ·rfl
     have hsm:(m.map fun x=>(x.2,x.1))=swap m:=rfl
     rw [hsm] at hR2 hk2 hbox hhp h ⊢
     generalize newRes m (o.dst.getD 0) r'.1=nw at *
     have hTl:=retireAll_len ((r'.2.map (·.1)).filter fun n=>!((nw++swap m).map (·.1)).contains n) { T:=r'.1,B:=r'.2 }
     generalize retireAll ((r'.2.map (·.1)).filter fun n=>!((nw++swap m).map (·.1)).contains n) { T:=r'.1,B:=r'.2 }=e at *
     obtain ⟨βn,b1,b2,b3⟩:=back_rel hR hk H hlow hm hn1 (List.nodup_append.1 hn2).1 hR2 hk2 hbox hnew (hhk _ hhp)
     refine Inv.put (st:={ T:=SV.rens (keepφ st m) st.T,B:=_ }) hdef ⟨βn,b1,b2,?_⟩ o.dst
     refine retSV_rs (by rw [SV.rens_len];exact hR2.len) (fun i s v hs hv=>?_)
     obtain ⟨s0,k1,rfl⟩:=ren_map hs
     exact b3 s0 v (hR2.slot i s0 v k1 hv)

end
end Go.X
set_option linter.unusedVariables false
set_option linter.unusedSimpArgs false
namespace Go.X
open Go
section
variable {E : Env} {w0 : World} {F : Foot} {Mo : Nat → Prop} {st : St} {K : St → Option Out} {r : Out} {a : Act} {w : World} {β : Beta}

theorem HStep.put {vs:List Value}(hH:Obs.hasH st.B=true)(hR:Rel E.P Mo β st.T st.B vs w){w':World}{i b c:Nat}{o:Ob}(hg:Obs.get st.B (HB+i)=some o)(hβ:β (HB+i)=some (b,c))(y:HE)
  (hsz:w'.heap.size=w.heap.size)(hold:∀ x,x≠b→w'.heap[x]?=w.heap[x]?)(hos:w'.os=w.os)(hout:w'.output=w.output) :
  HStep w β st.B w' β ((Obs.hps st.B).set i y):=by
 have hget:∀ j o',(((Obs.hps st.B).set i y)[j]?).bind HE.ob=some o'→∃ o2,Obs.get st.B (HB+j)=some o2:=by
  intro j o' hj
  by_cases hij:i=j
  ·subst hij;exact ⟨o,hg⟩
  ·rw [List.getElem?_set_ne hij] at hj
   exact ⟨o',heap_at.2 hj⟩
 refine ⟨hH,fun d _=>rfl,by omega,fun j x hj hx=>⟨by simpa using hj,hx⟩,fun j o' b' c' hj hb=>?_,fun j k o1 o2 b' c1 c2 h1 h2 h3 h4=>?_,fun b' hb' hno=>hold b' (fun hbb=>hno i o c hg (by rw [hbb];exact hβ)),hos,hout⟩
 ·obtain ⟨o2,h2⟩:=hget j o' hj
  exact .inl ⟨j,o2,c',h2,hb⟩
 ·obtain ⟨x1,g1⟩:=hget j o1 h1
  obtain ⟨x2,g2⟩:=hget k o2 h2
  have:=hR.inj _ _ _ _ b' c1 c2 g1 g2 h3 h4
  omega

theorem HStep.others {vs:List Value}(hR:Rel E.P Mo β st.T st.B vs w){w':World}{i b c:Nat}{o:Ob}(hg:Obs.get st.B (HB+i)=some o)(hβ:β (HB+i)=some (b,c))(hold:∀ x,x≠b→w'.heap[x]?=w.heap[x]?)
  {j:Nat}{o':Ob}(hij:i≠j)(hj:((Obs.hps st.B)[j]?).bind HE.ob=some o'):Obs.get st.B (HB+j)=some o'∧β (HB+j)=β (HB+j)∧∀ b c,β (HB+j)=some (b,c)→w'.heap[b]?=w.heap[b]?:=by
 have hgj:=heap_at.2 hj
 refine ⟨hgj,rfl,fun b' c' hb=>hold b' fun hbb=>?_⟩
 subst hbb
 have:=hR.inj _ _ _ _ b' c c' hg hgj hβ hb
 omega

theorem e_hstore (hL:laidOutB E.P=true)(hH:Obs.hasH st.B=true)(hI:Inv E.P w0 F Mo st a w){o:Oper}{t:TypeId}{x y:Operand}(ho:o.op=.store t x y)(h:opEH E o st K=some r):EOk E w0 F Mo o K r a w:=by
 obtain ⟨hdef,β,hR,hk⟩:=hI
 have hx:=get_sound hR 0 x
 have hy:=get_sound hR t y
 unfold opEH at h
 rw [ho] at h
 simp only at h
 generalize st.get E.P 0 x=sx at h hx
 generalize st.get E.P t y=sy at h hy
 generalize hvx:a.eval x=vx at hx
 generalize hvy:a.eval y=vy at hy
 cases hx with
 | @hptr e i q b c off hG hoff =>
  simp only at h
  obtain ⟨hc,h⟩:=cond_some h
  simp only [Bool.and_eq_true,beq_iff_eq] at hc
  obtain ⟨hty,hok⟩:=hc
  cases hp:sy.pvH E.P t with
  | none=>rw [hp] at h;cases h
  | some px =>
   rw [hp] at h
   simp only at h
   obtain ⟨xs,x1,x2⟩:=hy.pvH hp
   obtain ⟨dd,hu⟩:=x2.desc
   have hx1:=x2.one hL
   have hget:=get_heap st.B i
   have fin:∀ {cs:List Value}{ob:Ob}{fr:Nat × Nat}{y':HE},Obs.get st.B (HB+i)=some ob→w.heap[b]?=some (.cells cs.toArray e fr)→(∀ o,o < cs.length→fr.1=fr.2∨cs.length≤fr.1)→xs.length=E.P.cellsOf t→off+xs.length≤cs.length →
     hput (Obs.hps st.B) e i px q=(Obs.hps st.B).set i y' →
     (∀ w' β' B',w'.heap[b]?=some (.cells (splice cs off xs).toArray e fr)→β' (HB+i)=some (b,c)→Same E.P w (Mut Mo β st.B) β st.B w' (Mut Mo β' B') β' B'→∀ o',y'.ob=some o'→RO E.P w' (Mut Mo β' B') β' B' (HB+i) o')→EOk E w0 F Mo o K r a w:=by
    intro cs ob fr y' hg hb hfr hl hin hput hro
    have hrun:(execOp a.eval o).run E.P w=.ok .skip (w.setCells b off xs):=by
     unfold execOp;rw [ho]
     simp only [Instr.storeAt,hvx,hvy,Instr.sureAddr]
     rw [Sem.run_bind,Sem.run_bind,Sem.run_pure,Result.andThen_ok,run_storeVar hu x1 hx1 hl hb hin hfr];rfl
    have hblk:=setCells_block b xs off w cs e fr hb (by omega)
    have hoth:=fun x hx=>setCells_other b x hx xs off w
    rw [hput] at h
    have hst:=HStep.put (w':=w.setCells b off xs) hH hR hg hG.2 y' (setCells_size b xs off w) hoth (setCells_os b xs off w).1 (setCells_os b xs off w).2
    have hR':=hst.rel hR fun hsame j o' hj=>by
     by_cases hij:i=j
     ·subst hij
      rw [List.getElem?_set_self hG.1] at hj
      exact .inr (hro _ _ _ hblk hG.2 hsame o' hj)
     ·rw [List.getElem?_set_ne hij] at hj
      exact .inl (HStep.others hR hg hG.2 hoth hij hj)
    refine ⟨_,h,fun next Q hn=>?_⟩
    unfold Oper.wp
    rw [hrun,Oper.upon_skip]
    exact hn _ _ (Inv.put (st:={ st with B:=Obs.setH ((Obs.hps st.B).set i y') st.B }) hdef ⟨β,hR',hst.kp hk,.undef⟩ o.dst)
   cases hel:isEl q with
   | false =>
    obtain ⟨n1,n2,n3,n4,n5⟩:=notEl (P:=E.P) hel
    rw [n1] at hok;rw [n3] at hty;rw [n4] at hoff
    obtain ⟨p,k1,k2⟩:=hokV_spec hok
    rw [k1] at hget
    have hget:Obs.get st.B (HB+i)=some (.hvar e p):=hget
    obtain ⟨b',c',cs,fr,h1,h2,h3,h4,h5,h6,h7⟩:=hR.ob _ _ hget
    rw [hG.2] at h1;injection h1 with h1;injection h1 with e1 e2;subst e1;subst e2
    have hin:=off_in hL q h7 hty hoff
    have hxl:=x2.size hL hin.1
    refine fin hget h2 h3 hxl (by omega) (n5 _ _ _ _) (fun w' β' B' hw' hβ' hsame o' ho'=>?_)
    injection ho' with ho';subst ho'
    rw [k2]
    refine ⟨b,c,_,fr,hβ',hw',fun o ho=>by rw [splice_len (by omega)] at ho ⊢;exact h3 o ho,by rw [splice_len (by omega)];exact h4,fun c hc=>?_,RdH.put hL q h7 (h6.mono hsame.st hsame.hp) hty hoff (x2.mono hsame.st hsame.hp),h7⟩
    rcases mem_splice hc with hc|hc
    ·exact h5 c hc
    ·exact hx1 c hc
   | true =>
    obtain ⟨n,q',rfl⟩:=isEl_true hel
    obtain ⟨l,k1,k2,k3,k4⟩:=hokR_spec (show hokR _ e i n=true from hok)
    rw [k1] at hget
    have hget:Obs.get st.B (HB+i)=some (.hrow e l):=hget
    obtain ⟨hz,b',c',cs,fr,h1,h2,h3,h4,h5,h6,h7,h8⟩:=hR.ob _ _ hget
    rw [hG.2] at h1;injection h1 with h1;injection h1 with e1 e2;subst e1;subst e2
    simp only [offH,if_pos k3] at hoff
    cases hoq:offT E.P e q' with
    | none=>rw [hoq] at hoff;cases hoff
    | some o' =>
     rw [hoq] at hoff
     replace hoff:n.toNat * E.P.cellsOf e+o'=off:=by injection hoff
     subst hoff
     have htq:typT E.P e q'=some t:=hty
     have hin:=off_in hL q' hz htq hoq
     have hxl:=x2.size hL hin.1
     have hil:n.toNat < l.length:=by omega
     have hg:=List.getElem?_eq_getElem hil
     have hw:n.toNat * E.P.cellsOf e+E.P.cellsOf e≤cs.length:=by
      rw [h6];exact mul_within (by omega)
     refine fin hget h2 h3 hxl (by omega) rfl (fun w' β' B' hw' hβ' hsame o2 ho2=>?_)
     injection ho2 with ho2;subst ho2
     rw [k2]
     have x2':=x2.mono hsame.st hsame.hp
     have hold:=(h8 n.toNat _ hg).mono hsame.st hsame.hp
     change RdH E.P w' _ _ e l[n.toNat] (sub cs (n.toNat * E.P.cellsOf e) (E.P.cellsOf e)) at hold
     have hput:=RdH.put hL q' hz hold htq hoq x2'
     refine ⟨hz,b,c,_,fr,hβ',hw',fun o ho=>by rw [splice_len (by omega)] at ho ⊢;exact h3 o ho,by simpa using h4,h5,by rw [splice_len (by omega)];exact h6,fun c hc=>?_,fun j p hj=>?_⟩
     ·rcases mem_splice hc with hc|hc
      ·exact h7 c hc
      ·exact hx1 c hc
     ·rw [List.getElem?_set] at hj
      change RdH E.P w' _ _ e p (sub (splice cs (n.toNat * E.P.cellsOf e+o') xs) (j * E.P.cellsOf e) (E.P.cellsOf e))
      by_cases hij:n.toNat=j
      ·subst hij
       rw [if_pos rfl,if_pos hil,getD_of hg] at hj
       injection hj with hj;subst hj
       rw [sub_splice_in (by omega) (by omega)]
       exact hput
      ·rw [if_neg hij] at hj
       rw [sub_splice_out (by omega) (by have:=mul_apart (n:=E.P.cellsOf e) hij;omega)]
       exact (h8 j p hj).mono hsame.st hsame.hp
 | _=>cases h

theorem hrow_of {vs:List Value}(hR:Rel E.P Mo β st.T st.B vs w){t e:TypeId}{p:PV}{v:Value}(hrt:refT E.P t=true)(hu:E.P.underlying t=some (.slice e))(hs:RS E.P w (Mut Mo β st.B) β st.B (.hval t p) v)
  (hk:hokS (Obs.hps st.B) e p=true):(p=.list []∧v=.slice none 0 0)∨∃ i l b c cs fr,p=.rs i l.length∧v=.slice (some ⟨b,0,none⟩) l.length c∧(Obs.hps st.B)[i]?=some (.row e l)∧β (HB+i)=some (b,c)∧i < (Obs.hps st.B).length∧e < E.P.types.size ∧
   w.heap[b]?=some (.cells (List.toArray cs) e fr)∧(∀ o,o < cs.length→fr.1=fr.2∨cs.length≤fr.1)∧l.length≤c∧c≤maxLen∧cs.length=c * E.P.cellsOf e∧(∀ x ∈ cs,x.oneCell'=true)∧RowsH E.P w (Mut Mo β st.B) (GH β st.B) e l cs:=by
 cases hs with
 | @hval _ _ _ xs x1 x2 =>
  have ha:isAggT E.P t=false:=by simp [isAggT,hu]
  unfold Pack at x1
  rw [if_neg (by simp [ha])] at x1
  rcases x2.slice_of hrt hu with ⟨rfl,h2⟩|⟨i,n,b,c,rfl,h2,hG,h3,h4⟩
  ·rw [h2] at x1;injection x1 with x1;exact .inl ⟨rfl,x1.symm⟩
  ·rw [h2] at x1;injection x1 with x1
   unfold hokS at hk
   simp only at hk
   split at hk
   ·rename_i t' l hi
    simp only [Bool.and_eq_true,beq_iff_eq,decide_eq_true_eq] at hk
    obtain ⟨rfl,rfl⟩:=hk
    have hget:Obs.get st.B (HB+i)=some (.hrow t' l):=heap_at.2 (by rw [hi];rfl)
    obtain ⟨hz,b',c',cs,fr,g1,g2,g3,g4,g5,g6,g7,g8⟩:=hR.ob _ _ hget
    rw [hG.2] at g1;injection g1 with g1;injection g1 with e1 e2;subst e1;subst e2
    exact .inr ⟨i,l,b,c,cs,fr,rfl,x1.symm,hi,hG.2,hG.1,hz,g2,g3,g4,g5,g6,g7,g8⟩
   ·cases hk

theorem hsub_of {vs:List Value}(hR:Rel E.P Mo β st.T st.B vs w){t e:TypeId}{i n a1:Nat}{v:Value}(hu:E.P.underlying t=some (.slice e))(hs:RS E.P w (Mut Mo β st.B) β st.B (.hsub t i n a1) v)
  (hk:hokS (Obs.hps st.B) e (.rs i n)=true):∃ l b c cs fr,n=l.length∧a1≤l.length∧v=.slice (some ⟨b,if c=a1 then 0 else a1,none⟩) (l.length - a1) (c - a1)∧(Obs.hps st.B)[i]?=some (.row e l)∧β (HB+i)=some (b,c)∧i < (Obs.hps st.B).length∧e < E.P.types.size ∧
   w.heap[b]?=some (.cells (List.toArray cs) e fr)∧(∀ o,o < cs.length→fr.1=fr.2∨cs.length≤fr.1)∧l.length≤c∧c≤maxLen∧cs.length=c * E.P.cellsOf e∧(∀ x ∈ cs,x.oneCell'=true)∧RowsH E.P w (Mut Mo β st.B) (GH β st.B) e l cs:=by
 cases hs with
 | @hsub _ _ _ _ _ b c hrt hu' hce hG ha h3 h4 =>
  unfold hokS at hk
  simp only at hk
  split at hk
  ·rename_i t' l hi
   simp only [Bool.and_eq_true,beq_iff_eq,decide_eq_true_eq] at hk
   obtain ⟨rfl,rfl⟩:=hk
   have hget:Obs.get st.B (HB+i)=some (.hrow t' l):=heap_at.2 (by rw [hi];rfl)
   obtain ⟨hz,b',c',cs,fr,g1,g2,g3,g4,g5,g6,g7,g8⟩:=hR.ob _ _ hget
   rw [hG.2] at g1;injection g1 with g1;injection g1 with e1 e2;subst e1;subst e2
   exact ⟨l,b,c,cs,fr,rfl,ha,rfl,hi,hG.2,hG.1,hz,g2,g3,g4,g5,g6,g7,g8⟩
  ·cases hk

theorem RowsH.sub' {P:Program}{w:World}{M:Nat→Prop}{G:Nat→Nat × Nat→Prop}{e:TypeId}{l:List PV}{cs cs':List Value}(h:RowsH P w M G e l cs)(he:∀ k,k < l.length * P.cellsOf e→cs'[k]?=cs[k]?):RowsH P w M G e l cs':=by
 intro i p hi
 have hb:=mul_within (n:=P.cellsOf e) (get_lt hi)
 have:sub cs' (i * P.cellsOf e) (P.cellsOf e)=sub cs (i * P.cellsOf e) (P.cellsOf e):=by
  apply List.ext_getElem?
  intro j
  rw [sub_get,sub_get]
  by_cases hj:j < P.cellsOf e
  ·rw [if_pos hj,if_pos hj,he _ (by omega)]
  ·rw [if_neg hj,if_neg hj]
 rw [this];exact h i p hi

theorem e_hcopy (hL:laidOutB E.P=true)(hH:Obs.hasH st.B=true)(hI:Inv E.P w0 F Mo st a w){o:Oper}{args:Array Operand}{argTypes:Array TypeId}(ho:o.op=.call { callee:=.builtin .copy,args,argTypes })(h:opEH E o st K=some r):EOk E w0 F Mo o K r a w:=by
 obtain ⟨hdef,β,hR,hk⟩:=hI
 unfold opEH at h
 rw [ho] at h
 simp only at h
 match hal:args.toList with
 | []=>rw [hal] at h;cases h
 | [_] =>
  rw [hal] at h
  simp only [List.map_cons,List.map_nil] at h
  split at h
  ·rename_i h1 _;simp at h1
  ·rename_i h1 _;simp at h1
  ·cases h
 | _ :: _ :: _ :: _ =>
  rw [hal] at h
  simp only [List.map_cons] at h
  split at h
  ·rename_i h1 _;simp at h1
  ·rename_i h1 _;simp at h1
  ·cases h
 | [x,y] =>
  rw [hal] at h
  simp only [List.map_cons,List.map_nil] at h
  have hargs:args=#[x,y]:=by apply Array.ext';rw [hal]
  subst hargs
  have hx:=get_sound hR o.type x
  have hy:=get_sound hR o.type y
  generalize st.get E.P o.type x=sx at h hx
  generalize st.get E.P o.type y=sy at h hy
  generalize hvx:a.eval x=vx at hx
  generalize hvy:a.eval y=vy at hy
  split at h
  rotate_left
  ·rename_i t i n a1 u j m b1 e h1 h2
   injection h1 with e1 h1;injection h1 with e2 _
   subst e1;subst e2
   obtain ⟨hc,h9⟩:=cond_some h
   clear h
   simp only [Bool.and_eq_true,beq_iff_eq,decide_eq_true_eq] at hc
   obtain ⟨⟨⟨⟨⟨hk1,hk2⟩,hat0⟩,rfl⟩,hce⟩,hsz⟩:=hc
   rw [hat0] at h2
   simp only [Option.bind_some] at h2
   obtain ⟨t1,hat⟩:∃ t1,argTypes=#[u,t1]:=by
    match hl:argTypes.toList with
    | [p,q]=>
     have:argTypes=#[p,q]:=by apply Array.ext';rw [hl]
     subst this
     have:p=u:=by simpa using hat0
     subst this
     exact ⟨q,rfl⟩
    | []=>have:=congrArg List.length hl;simp [hsz] at this
    | [_]=>have:=congrArg List.length hl;simp [hsz] at this
    | _ :: _ :: _ :: _=>have:=congrArg List.length hl;simp [hsz] at this
   subst hat
   obtain ⟨l,b,c,cs,fr,rfl,hal1,rfl,hi,hβ,hil,hz,hb,hfr,hlc,hcm,hcl,hone,hrows⟩:=hsub_of hR h2 hx hk1
   obtain ⟨l',b',c',cs',fr',rfl,hal2,rfl,hj,hβ',hjl,_,hb',hfr',hlc',hcm',hcl',hone',hrows'⟩:=hsub_of hR h2 hy hk2
   have e1:hrowOf (Obs.hps st.B) i=l:=by simp [hrowOf,hi]
   have e2:hrowOf (Obs.hps st.B) j=l':=by simp [hrowOf,hj]
   rw [e1,e2] at h9
   rw [hce,Nat.mul_one] at hcl hcl'
   obtain ⟨ie,q1,q2⟩:=info_lt hz
   obtain ⟨N,hN⟩:∃ N,N=Nat.min (l'.length - b1) (l.length - a1):=⟨_,rfl⟩
   have hmin1:N≤l.length - a1:=by rw [hN];exact Nat.min_le_right _ _
   have hmin2:N≤l'.length - b1:=by rw [hN];exact Nat.min_le_left _ _
   have hmin3:N=l'.length - b1∨N=l.length - a1:=by rw [hN];rcases Nat.le_total (l'.length - b1) (l.length - a1) with h|h <;> simp [Nat.min_def] <;> omega
   obtain ⟨xs,hxs⟩:∃ xs,xs=(cs'.drop b1).take N:=⟨_,rfl⟩
   have hnl:xs.length=N:=by rw [hxs,List.length_take,List.length_drop,hcl'];omega
   obtain ⟨of1,hof1⟩:∃ of1,of1=if c=a1 then 0 else a1:=⟨_,rfl⟩
   obtain ⟨of2,hof2⟩:∃ of2,of2=if c'=b1 then 0 else b1:=⟨_,rfl⟩
   have ho1:N≠0→of1=a1:=fun h=>by rw [hof1,if_neg (by omega)]
   have ho2:N≠0→of2=b1:=fun h=>by rw [hof2,if_neg (by omega)]
   have hxg:∀ k,k < N→xs[k]?=cs'[b1+k]?:=fun k hk=>by
    rw [hxs,List.getElem?_take_of_lt hk,List.getElem?_drop]
   have hcopy:=run_copy_cells (P:=E.P) w u t1 o.type e b of1 (l.length - a1) (c - a1) ⟨b',of2,none⟩ (l'.length - b1) (c' - b1) xs h2 (by rw [q1];simp [←q2,hce]) (by rw [hnl,hN])
    (fun k v hk=>by
     have hkl:=get_lt hk
     rw [hnl] at hkl
     rw [hxg k hkl] at hk
     have hk3:(sub cs' 0 cs'.length)[b1+k]?=some v:=by rw [sub_get,if_pos (get_lt hk),Nat.zero_add];exact hk
     have:=cell_block hb' (b1+k) _ hk3
     rw [add_off,Nat.zero_add] at this
     rw [add_off,ho2 (by omega)]
     exact this)
    (fun k hk=>by
     rw [hnl] at hk
     unfold World.cell?
     simp only [hb,Option.isSome_none,Bool.false_eq_true,if_false]
     rw [ho1 (by omega)]
     simp;omega)
    (fun k hk=>by
     rw [hnl] at hk
     rw [ho1 (by omega)]
     unfold World.frozen?
     simp only [hb]
     have:¬ (fr.1≤a1+k∧a1+k < fr.2):=by have:=hfr (a1+k) (by omega);omega
     simp only [Bool.and_eq_false_iff,decide_eq_false_iff_not]
     rcases Nat.lt_or_ge (a1+k) fr.1 with h|h
     ·exact .inl (by omega)
     ·exact .inr (fun h'=>this ⟨h,h'⟩))
    (fun v hv=>hone' v (by rw [hxs] at hv;exact List.mem_of_mem_drop (List.mem_of_mem_take hv)))
   have hrun:(execOp a.eval o).run E.P w=.ok (.value (goInt xs.length)) (w.setCells b of1 xs):=by
    unfold execOp;rw [ho]
    simp only [resolve,pure_bind,invoke,builtin]
    rw [Sem.run_bind,show (Array.map a.eval #[x,y])=#[.slice (some ⟨b,of1,none⟩) (l.length - a1) (c - a1),.slice (some ⟨b',of2,none⟩) (l'.length - b1) (c' - b1)] by simp [hvx,hvy,hof1,hof2],hcopy];rfl
   have hin:of1+xs.length≤cs.length:=by
    rw [hnl]
    rcases Nat.eq_zero_or_pos N with h|h
    ·rw [hof1];split <;> omega
    ·rw [ho1 (by omega)];omega
   have hblk:=setCells_block b xs of1 w cs e fr hb hin
   have hoth:=fun x hx=>setCells_other b x hx xs of1 w
   have hg:Obs.get st.B (HB+i)=some (.hrow e l):=heap_at.2 (by rw [hi];rfl)
   generalize hnew:l.take a1++((l'.drop b1).take (l.length - a1)++l.drop (a1+(l'.length - b1)))=new at h9
   have hst:=HStep.put (w':=w.setCells b of1 xs) hH hR hg hβ (.row e new) (setCells_size b _ of1 w) hoth (setCells_os b _ of1 w).1 (setCells_os b _ of1 w).2
   have hlen:new.length=l.length:=by rw [←hnew];simp;omega
   have hget:∀ k,new[k]?=if a1≤k∧k < a1+N then l'[b1+(k - a1)]? else l[k]?:=fun k=>by
    rw [←hnew]
    by_cases h1:k < a1
    ·rw [if_neg (by omega),List.getElem?_append_left (by simp;omega),List.getElem?_take_of_lt h1]
    ·rw [List.getElem?_append_right (by simp;omega),List.length_take,Nat.min_eq_left (by omega)]
     have hl2:((l'.drop b1).take (l.length - a1)).length=N:=by rw [List.length_take,List.length_drop];omega
     by_cases h2:k < a1+N
     ·rw [if_pos ⟨by omega,h2⟩,List.getElem?_append_left (by omega),List.getElem?_take_of_lt (by omega),List.getElem?_drop]
     ·rw [if_neg (by omega),List.getElem?_append_right (by omega),hl2,List.getElem?_drop]
      by_cases h3:N=l'.length - b1
      ·rw [show a1+(l'.length - b1)+(k - a1 - N)=k by omega]
      ·rw [List.getElem?_eq_none (by omega),List.getElem?_eq_none (by omega)]
   have hR':=hst.rel hR fun hsame k o' hk'=>by
    by_cases hij:i=k
    ·subst hij
     rw [List.getElem?_set_self hil] at hk'
     injection hk' with hk';subst hk'
     refine .inr ⟨hz,b,c,_,fr,hβ,hblk,fun o ho=>by rw [splice_len hin] at ho ⊢;exact hfr o ho,by rw [hlen];exact hlc,hcm,by rw [splice_len hin,hce,Nat.mul_one];exact hcl,fun v hv=>?_,fun k p hp=>?_⟩
     ·rcases mem_splice hv with hv|hv
      ·exact hone v hv
      ·exact hone' v (by rw [hxs] at hv;exact List.mem_of_mem_drop (List.mem_of_mem_take hv))
     ·change RdH E.P _ _ _ e p (sub (splice cs of1 xs) (k * E.P.cellsOf e) (E.P.cellsOf e))
      have hkl:=get_lt hp
      rw [hlen] at hkl
      rw [hget k] at hp
      split at hp
      ·rename_i hkN
       have hr:=hrows' (b1+(k - a1)) p hp
       have:sub (splice cs of1 xs) (k * E.P.cellsOf e) (E.P.cellsOf e)=sub cs' ((b1+(k - a1)) * E.P.cellsOf e) (E.P.cellsOf e):=by
        apply List.ext_getElem?
        intro z
        rw [sub_get,sub_get,hce]
        by_cases hz:z < 1
        ·rw [if_pos hz,if_pos hz,splice_get hin,ho1 (by omega),if_neg (by omega),if_pos (by rw [hnl];omega),hxg _ (by omega)]
         congr 1;omega
        ·rw [if_neg hz,if_neg hz]
       rw [this];exact hr.mono hsame.st hsame.hp
      ·rename_i hkN
       have hr:=hrows k p hp
       have:sub (splice cs of1 xs) (k * E.P.cellsOf e) (E.P.cellsOf e)=sub cs (k * E.P.cellsOf e) (E.P.cellsOf e):=by
        apply List.ext_getElem?
        intro z
        rw [sub_get,sub_get,hce]
        by_cases hz:z < 1
        ·rw [if_pos hz,if_pos hz,splice_get hin]
         rcases Nat.eq_zero_or_pos N with hN0|hN0
         ·split
          ·rfl
          ·rw [if_neg (by rw [hnl];omega)]
         ·rw [ho1 (by omega)]
          split
          ·rfl
          ·rw [if_neg (by rw [hnl];omega)]
        ·rw [if_neg hz,if_neg hz]
       rw [this];exact hr.mono hsame.st hsame.hp
    ·rw [List.getElem?_set_ne hij] at hk'
     exact .inl (HStep.others hR hg hβ hoth hij hk')
   refine ⟨_,h9,fun next Q hn=>?_⟩
   unfold Oper.wp
   rw [hrun,Oper.upon_value]
   refine hn _ _ (Inv.put (st:={ st with B:=_ }) hdef ⟨β,hR',hst.kp hk,?_⟩ o.dst)
   rw [hnl,hN]
   exact .int (i64_wf (by rw [←hN];omega))
  ·cases h
  ·rename_i t p u p' e h1 h2
   injection h1 with e1 h1;injection h1 with e2 _
   subst e1;subst e2
   obtain ⟨hc,h9⟩:=cond_some h
   clear h
   simp only [Bool.and_eq_true,beq_iff_eq,decide_eq_true_eq] at hc
   obtain ⟨⟨⟨⟨⟨⟨⟨hk1,hk2⟩,hrs1,hrs2⟩,hrt⟩,hat0⟩,rfl⟩,hce⟩,hsz⟩:=hc
   rw [hat0] at h2
   simp only [Option.bind_some] at h2
   obtain ⟨t1,hat⟩:∃ t1,argTypes=#[u,t1]:=by
    match hl:argTypes.toList with
    | [p,q]=>
     have:argTypes=#[p,q]:=by apply Array.ext';rw [hl]
     subst this
     have:p=u:=by simpa using hat0
     subst this
     exact ⟨q,rfl⟩
    | []=>have:=congrArg List.length hl;simp [hsz] at this
    | [_]=>have:=congrArg List.length hl;simp [hsz] at this
    | _ :: _ :: _ :: _=>have:=congrArg List.length hl;simp [hsz] at this
   subst hat
   rcases hrow_of hR hrt h2 hx hk1 with ⟨rfl,_⟩|⟨i,l,b,c,cs,fr,rfl,rfl,hi,hβ,hil,hz,hb,hfr,hlc,hcm,hcl,hone,hrows⟩
   ·cases hrs1
   rcases hrow_of hR hrt h2 hy hk2 with ⟨rfl,_⟩|⟨j,l',b',c',cs',fr',rfl,rfl,hj,hβ',hjl,_,hb',hfr',hlc',hcm',hcl',hone',hrows'⟩
   ·cases hrs2
   simp only [PV.rI,PV.rN,hels,hrowOf,hi,hj] at h9
   rw [hce,Nat.mul_one] at hcl hcl'
   obtain ⟨ie,q1,q2⟩:=info_lt hz
   have hnl:(cs'.take (Nat.min l'.length l.length)).length=Nat.min l'.length l.length:=by
    rw [List.length_take,hcl'];have:Nat.min l'.length l.length≤l'.length:=Nat.min_le_left _ _;omega
   have hmin1:Nat.min l'.length l.length≤l.length:=Nat.min_le_right _ _
   have hmin2:Nat.min l'.length l.length≤l'.length:=Nat.min_le_left _ _
   have hcopy:=run_copy_cells (P:=E.P) w u t1 o.type e b 0 l.length c ⟨b',0,none⟩ l'.length c' (cs'.take (Nat.min l'.length l.length)) h2 (by rw [q1];simp [←q2,hce]) hnl
    (fun k v hk=>by
     have hk2:cs'[k]?=some v:=by
      rw [List.getElem?_take] at hk;split at hk
      ·exact hk
      ·cases hk
     have hk3:(sub cs' 0 cs'.length)[k]?=some v:=by rw [sub_get,if_pos (get_lt hk2),Nat.zero_add];exact hk2
     have:=cell_block hb' k _ hk3
     simpa using this)
    (fun k hk=>by
     unfold World.cell?
     simp only [hb,Option.isSome_none,Bool.false_eq_true,if_false]
     simp;omega)
    (fun k hk=>by
     unfold World.frozen?
     simp only [hb]
     have:¬ (fr.1≤0+k∧0+k < fr.2):=by have:=hfr (0+k) (by omega);omega
     simp only [Bool.and_eq_false_iff,decide_eq_false_iff_not]
     rcases Nat.lt_or_ge (0+k) fr.1 with h|h
     ·exact .inl (by omega)
     ·exact .inr (fun h'=>this ⟨h,h'⟩))
    (fun v hv=>hone' v (List.mem_of_mem_take hv))
   have hrun:(execOp a.eval o).run E.P w=.ok (.value (goInt (cs'.take (Nat.min l'.length l.length)).length)) (w.setCells b 0 (cs'.take (Nat.min l'.length l.length))):=by
    unfold execOp;rw [ho]
    simp only [resolve,pure_bind,invoke,builtin]
    rw [Sem.run_bind,show (Array.map a.eval #[x,y])=#[.slice (some ⟨b,0,none⟩) l.length c,.slice (some ⟨b',0,none⟩) l'.length c'] by simp [hvx,hvy],hcopy];rfl
   have hin:0+(cs'.take (Nat.min l'.length l.length)).length≤cs.length:=by rw [hnl];omega
   have hblk:=setCells_block b (cs'.take (Nat.min l'.length l.length)) 0 w cs e fr hb hin
   have hoth:=fun x hx=>setCells_other b x hx (cs'.take (Nat.min l'.length l.length)) 0 w
   have hg:Obs.get st.B (HB+i)=some (.hrow e l):=heap_at.2 (by rw [hi];rfl)
   have hst:=HStep.put (w':=w.setCells b 0 (cs'.take (Nat.min l'.length l.length))) hH hR hg hβ (.row e (l'.take l.length++l.drop l'.length)) (setCells_size b _ 0 w) hoth (setCells_os b _ 0 w).1 (setCells_os b _ 0 w).2
   have hlen:(l'.take l.length++l.drop l'.length).length=l.length:=by simp;omega
   have hR':=hst.rel hR fun hsame k o' hk'=>by
    by_cases hij:i=k
    ·subst hij
     rw [List.getElem?_set_self hil] at hk'
     injection hk' with hk';subst hk'
     refine .inr ⟨hz,b,c,_,fr,hβ,hblk,fun o ho=>by rw [splice_len hin] at ho ⊢;exact hfr o ho,by rw [hlen];exact hlc,hcm,by rw [splice_len hin,hce,Nat.mul_one];exact hcl,fun v hv=>?_,fun k p hp=>?_⟩
     ·rcases mem_splice hv with hv|hv
      ·exact hone v hv
      ·exact hone' v (List.mem_of_mem_take hv)
     ·change RdH E.P _ _ _ e p (sub (splice cs 0 (cs'.take (Nat.min l'.length l.length))) (k * E.P.cellsOf e) (E.P.cellsOf e))
      by_cases hkl:k < Nat.min l'.length l.length
      ·have hlt1:k < l.length:=by omega
       have hlt2:k < l'.length:=by omega
       rw [List.getElem?_append_left (by simp;omega),List.getElem?_take_of_lt hlt1] at hp
       have hr:=hrows' k p hp
       have:sub (splice cs 0 (cs'.take (Nat.min l'.length l.length))) (k * E.P.cellsOf e) (E.P.cellsOf e)=sub cs' (k * E.P.cellsOf e) (E.P.cellsOf e):=by
        apply List.ext_getElem?
        intro z
        rw [sub_get,sub_get,hce]
        by_cases hz:z < 1
        ·rw [if_pos hz,if_pos hz,splice_get hin,if_neg (by omega),if_pos (by rw [hnl];omega),Nat.sub_zero,List.getElem?_take_of_lt (by omega)]
        ·rw [if_neg hz,if_neg hz]
       rw [this];exact hr.mono hsame.st hsame.hp
      ·have hkl2:=get_lt hp
       rw [hlen] at hkl2
       have hge:l'.length≤k:=by
        rcases Nat.lt_or_ge k l'.length with h|h
        ·exact absurd (Nat.lt_min.2 ⟨h,hkl2⟩) hkl
        ·exact h
       rw [List.getElem?_append_right (by simp;omega),List.getElem?_drop] at hp
       have e1:l'.length+(k - (l'.take l.length).length)=k:=by rw [List.length_take];omega
       rw [e1] at hp
       have hr:=hrows k p hp
       have:sub (splice cs 0 (cs'.take (Nat.min l'.length l.length))) (k * E.P.cellsOf e) (E.P.cellsOf e)=sub cs (k * E.P.cellsOf e) (E.P.cellsOf e):=by
        apply List.ext_getElem?
        intro z
        rw [sub_get,sub_get,hce]
        by_cases hz:z < 1
        ·rw [if_pos hz,if_pos hz,splice_get hin,if_neg (by omega),if_neg (by rw [hnl];omega)]
        ·rw [if_neg hz,if_neg hz]
       rw [this];exact hr.mono hsame.st hsame.hp
    ·rw [List.getElem?_set_ne hij] at hk'
     exact .inl (HStep.others hR hg hβ hoth hij hk')
   refine ⟨_,h9,fun next Q hn=>?_⟩
   unfold Oper.wp
   rw [hrun,Oper.upon_value]
   refine hn _ _ (Inv.put (st:={ st with B:=_ }) hdef ⟨β,hR',hst.kp hk,?_⟩ o.dst)
   rw [hnl]
   have e2:((min (l.length:Int) (l'.length:Int)))=((Nat.min l'.length l.length:Nat):Int):=by
    have:Nat.min l'.length l.length=min l.length l'.length:=Nat.min_comm _ _
    rw [this];omega
   rw [e2]
   exact .int (i64_wf (by omega))

theorem RowsH.app {P:Program}{w:World}{M:Nat→Prop}{G:Nat→Nat × Nat→Prop}{e:TypeId}{l m:List PV}{cs news rest:List Value}(hl:RowsH P w M G e l cs)(hm:RowsH P w M G e m news)(hcl:l.length * P.cellsOf e≤cs.length)(hnl:news.length=m.length * P.cellsOf e) :
  RowsH P w M G e (l++m) (cs.take (l.length * P.cellsOf e)++(news++rest)):=by
 intro i p hi
 by_cases h:i < l.length
 ·rw [List.getElem?_append_left h] at hi
  have hb:=mul_within (n:=P.cellsOf e) h
  have:sub (cs.take (l.length * P.cellsOf e)++(news++rest)) (i * P.cellsOf e) (P.cellsOf e)=sub cs (i * P.cellsOf e) (P.cellsOf e):=by
   apply List.ext_getElem?
   intro j
   rw [sub_get,sub_get]
   by_cases hj:j < P.cellsOf e
   ·rw [if_pos hj,if_pos hj,List.getElem?_append_left (by simp;omega),List.getElem?_take_of_lt (by omega)]
   ·rw [if_neg hj,if_neg hj]
  rw [this];exact hl i p hi
 ·rw [List.getElem?_append_right (by omega)] at hi
  have hil:=get_lt hi
  have hb:=mul_within (n:=P.cellsOf e) hil
  have hi2:i * P.cellsOf e=l.length * P.cellsOf e+(i - l.length) * P.cellsOf e:=by
   rw [←Nat.add_mul];congr 1;omega
  have:sub (cs.take (l.length * P.cellsOf e)++(news++rest)) (i * P.cellsOf e) (P.cellsOf e)=sub news ((i - l.length) * P.cellsOf e) (P.cellsOf e):=by
   apply List.ext_getElem?
   intro j
   rw [sub_get,sub_get]
   by_cases hj:j < P.cellsOf e
   ·rw [if_pos hj,if_pos hj,List.getElem?_append_right (by simp;omega),List.getElem?_append_left (by simp;omega)]
    congr 1;simp;omega
   ·rw [if_neg hj,if_neg hj]
  rw [this];exact hm _ p hi


theorem hsrc_of (hL:laidOutB E.P=true){vs:List Value}(hR:Rel E.P Mo β st.T st.B vs w){t e:TypeId}{p:PV}{v:Value}(hrt:refT E.P t=true)(hu:E.P.underlying t=some (.slice e))(hs:RS E.P w (Mut Mo β st.B) β st.B (.hval t p) v)
  (hk:hokS (Obs.hps st.B) e p=true):p.rN=(hels (Obs.hps st.B) p).length∧∃ news,Src E.P (E.P.cellsOf e) t v (hels (Obs.hps st.B) p).length news w∧RowsH E.P w (Mut Mo β st.B) (GH β st.B) e (hels (Obs.hps st.B) p) news:=by
 rcases hrow_of hR hrt hu hs hk with ⟨rfl,rfl⟩|⟨i,l,b,c,cs,fr,rfl,rfl,hi,hβ,hil,hz,hb,hfr,hlc,hcm,hcl,hone,hrows⟩
 ·exact ⟨rfl,[],Src.ofNil w hu 0,fun i p hi=>by simp [hels] at hi⟩
 ·simp only [PV.rN,hels,hrowOf,hi]
  have hlcs:l.length * E.P.cellsOf e≤cs.length:=by rw [hcl];exact Nat.mul_le_mul_right _ hlc
  refine ⟨trivial,cs.take (l.length * E.P.cellsOf e),Src.ofSlice w hu ⟨b,0,none⟩ l.length c _ (by rw [List.length_take];omega) (fun k x hk=>?_) (fun x hx=>hone x (List.mem_of_mem_take hx)),hrows.sub' fun k hk=>List.getElem?_take_of_lt hk⟩
  have hk2:cs[k]?=some x:=by
   rw [List.getElem?_take] at hk;split at hk
   ·exact hk
   ·cases hk
  have hk3:(sub cs 0 cs.length)[k]?=some x:=by rw [sub_get,if_pos (get_lt hk2),Nat.zero_add];exact hk2
  have:=cell_block hb k _ hk3
  simpa using this

theorem HStep.app {vs:List Value}(hH:Obs.hasH st.B=true)(hR:Rel E.P Mo β st.T st.B vs w){w':World}{i b c b2 c2:Nat}{o:Ob}(hg:Obs.get st.B (HB+i)=some o)(hβ:β (HB+i)=some (b,c))(y:HE)
  (hb2:b2=b∨(w.heap.size≤b2∧b2 < w'.heap.size))(hsz:w.heap.size≤w'.heap.size)(hold:∀ x,x < w.heap.size→x≠b→w'.heap[x]?=w.heap[x]?)(hos:w'.os=w.os)(hout:w'.output=w.output) :
  HStep w β st.B w' (β.at (HB+(Obs.hps st.B).length) (some (b2,c2))) ((Obs.hps st.B).set i .gone++[y]):=by
 have hat:∀ j x,j≠(Obs.hps st.B).length→β.at (HB+(Obs.hps st.B).length) x (HB+j)=β (HB+j):=fun j x h=>by unfold Beta.at;rw [if_neg (by omega)]
 have hget:∀ j o',(((Obs.hps st.B).set i .gone++[y])[j]?).bind HE.ob=some o'→j≠(Obs.hps st.B).length→i≠j∧Obs.get st.B (HB+j)=some o':=by
  intro j o' hj hne
  rcases Nat.lt_or_ge j (Obs.hps st.B).length with h|h
  ·rw [List.getElem?_append_left (by simpa using h)] at hj
   by_cases hij:i=j
   ·subst hij
    rw [List.getElem?_set_self h] at hj;cases hj
   ·rw [List.getElem?_set_ne hij] at hj
    exact ⟨hij,heap_at.2 hj⟩
  ·rw [List.getElem?_eq_none (by simp;omega)] at hj;cases hj
 refine ⟨hH,fun d hd=>by unfold Beta.at;rw [if_neg (by omega)],hsz,fun j x hj hx=>⟨by simp;omega,by rw [hat j _ (by omega)];exact hx⟩,fun j o' b' c' hj hb=>?_,fun j k o1 o2 b' c1 c3 h1 h2 h3 h4=>?_,fun b' hb' hno=>hold b' hb' (fun hbb=>hno i o c hg (by rw [hbb];exact hβ)),hos,hout⟩
 ·by_cases hjl:j=(Obs.hps st.B).length
  ·subst hjl
   rw [at_self] at hb
   injection hb with hb;injection hb with hb _;subst hb
   rcases hb2 with h|h
   ·exact .inl ⟨i,o,c,hg,by rw [h];exact hβ⟩
   ·exact .inr h
  ·rw [hat j _ hjl] at hb
   exact .inl ⟨j,o',c',(hget j o' hj hjl).2,hb⟩
 ·by_cases hjl:j=(Obs.hps st.B).length <;> by_cases hkl:k=(Obs.hps st.B).length
  ·rw [hjl,hkl]
  ·subst hjl
   rw [at_self] at h3
   injection h3 with h3;injection h3 with h3 _;subst h3
   rw [hat k _ hkl] at h4
   obtain ⟨g1,g2⟩:=hget k o2 h2 hkl
   rcases hb2 with h|h
   ·subst h
    have:=hR.inj _ _ _ _ _ c c3 hg g2 hβ h4
    omega
   ·have:=hR.lt _ _ _ _ g2 h4;omega
  ·subst hkl
   rw [at_self] at h4
   injection h4 with h4;injection h4 with h4 _;subst h4
   rw [hat j _ hjl] at h3
   obtain ⟨g1,g2⟩:=hget j o1 h1 hjl
   rcases hb2 with h|h
   ·subst h
    have:=hR.inj _ _ _ _ _ c c1 hg g2 hβ h3
    omega
   ·have:=hR.lt _ _ _ _ g2 h3;omega
  ·rw [hat j _ hjl] at h3
   rw [hat k _ hkl] at h4
   have:=hR.inj _ _ _ _ b' c1 c3 (hget j o1 h1 hjl).2 (hget k o2 h2 hkl).2 h3 h4
   omega

theorem HStep.app_others {vs:List Value}(hR:Rel E.P Mo β st.T st.B vs w){w':World}{i b c b2 c2:Nat}{o:Ob}(hg:Obs.get st.B (HB+i)=some o)(hβ:β (HB+i)=some (b,c)){y:HE}(hold:∀ x,x < w.heap.size→x≠b→w'.heap[x]?=w.heap[x]?)
  {j:Nat}{o':Ob}(hj:(((Obs.hps st.B).set i .gone++[y])[j]?).bind HE.ob=some o')(hjl:j≠(Obs.hps st.B).length) :
  Obs.get st.B (HB+j)=some o'∧β.at (HB+(Obs.hps st.B).length) (some (b2,c2)) (HB+j)=β (HB+j)∧∀ b c,β (HB+j)=some (b,c)→w'.heap[b]?=w.heap[b]?:=by
 rcases Nat.lt_or_ge j (Obs.hps st.B).length with h|h
 ·rw [List.getElem?_append_left (by simpa using h)] at hj
  by_cases hij:i=j
  ·subst hij
   rw [List.getElem?_set_self h] at hj;cases hj
  ·rw [List.getElem?_set_ne hij] at hj
   have hgj:=heap_at.2 hj
   refine ⟨hgj,by unfold Beta.at;rw [if_neg (by omega)],fun b' c' hb=>hold b' (hR.lt _ _ b' c' hgj hb) fun hbb=>?_⟩
   subst hbb
   have:=hR.inj _ _ _ _ b' c c' hg hgj hβ hb
   omega
 ·rw [List.getElem?_eq_none (by simp;omega)] at hj;cases hj

theorem e_happend (hL:laidOutB E.P=true)(hH:Obs.hasH st.B=true)(hI:Inv E.P w0 F Mo st a w){o:Oper}{args:Array Operand}{argTypes:Array TypeId}(ho:o.op=.call { callee:=.builtin .append,args,argTypes })(h:opEH E o st K=some r):EOk E w0 F Mo o K r a w:=by
 obtain ⟨hdef,β,hR,hk⟩:=hI
 unfold opEH at h
 rw [ho] at h
 simp only at h
 match hal:args.toList with
 | []=>rw [hal] at h;cases h
 | [_] =>
  rw [hal] at h
  simp only [List.map_cons,List.map_nil] at h
  split at h
  ·rename_i h1 _;simp at h1
  ·cases h
 | _ :: _ :: _ :: _ =>
  rw [hal] at h
  simp only [List.map_cons] at h
  split at h
  ·rename_i h1 _;simp at h1
  ·cases h
 | [x,y] =>
  rw [hal] at h
  simp only [List.map_cons,List.map_nil] at h
  have hargs:args=#[x,y]:=by apply Array.ext';rw [hal]
  subst hargs
  have hx:=get_sound hR o.type x
  have hy:=get_sound hR o.type y
  generalize st.get E.P o.type x=sx at h hx
  generalize st.get E.P o.type y=sy at h hy
  generalize hvx:a.eval x=vx at hx
  generalize hvy:a.eval y=vy at hy
  split at h
  ·rename_i t p u p' e h1 h2
   injection h1 with e1 h1;injection h1 with e2 _
   subst e1;subst e2
   cases hz:zeroPV E.P e with
   | none=>rw [hz] at h;cases h
   | some z =>
    rw [hz] at h
    simp only at h
    obtain ⟨hc,h9⟩:=cond_some h
    clear h
    rw [Bool.and_eq_true,Bool.and_eq_true,Bool.and_eq_true,Bool.and_eq_true,Bool.and_eq_true,Bool.and_eq_true,Bool.and_eq_true,Bool.and_eq_true,Bool.and_eq_true] at hc
    obtain ⟨⟨⟨⟨⟨⟨⟨⟨⟨hk1,hk2⟩,hrt⟩,hut⟩,he⟩,hsz⟩,hat0⟩,hat1⟩,hne⟩,hroom⟩:=hc
    have he:e < E.P.types.size:=by simpa using he
    have hsz:argTypes.size=2:=by simpa using hsz
    have hut:u=t:=by simpa using hut
    subst hut
    have hat0:argTypes[0]?=some u:=by simpa using hat0
    have hat1:argTypes[1]?=some u:=by simpa using hat1
    rw [hat0] at h2
    simp only [Option.bind_some] at h2
    have hat:argTypes=#[u,u]:=by
     match hl:argTypes.toList with
     | [p,q]=>
      have:argTypes=#[p,q]:=by apply Array.ext';rw [hl]
      subst this
      have e1:p=u:=by simpa using hat0
      have e2:q=u:=by simpa using hat1
      subst e1;rw [e2]
     | []=>have:=congrArg List.length hl;simp [hsz] at this
     | [_]=>have:=congrArg List.length hl;simp [hsz] at this
     | _ :: _ :: _ :: _=>have:=congrArg List.length hl;simp [hsz] at this
    subst hat
    obtain ⟨zv,zcs,z1,z2,z3,z4⟩:=zeroPV_spec hz
    obtain ⟨it,i1,i2⟩:=run_zero_und z1
    have hce:E.P.cellsOf e=it.size:=by unfold Program.cellsOf;rw [i1];rfl
    have hbe:E.P.bytesOf e=it.bytes:=by unfold Program.bytesOf;rw [i1];rfl
    obtain ⟨hpn',news,hsrc,hnr⟩:=hsrc_of hL hR hrt h2 hy hk2
    obtain ⟨hpn,_⟩:=hsrc_of hL hR hrt h2 hx hk1
    rw [hpn,hpn'] at h9 hroom
    rw [hpn'] at hne
    generalize hels (Obs.hps st.B) p'=m at h9 hsrc hnr hpn' hroom hne
    have hnl:=hsrc.newsLen
    have hrun:∀ {v w'},(Builtin.append_ #[u,u] o.type #[vx,vy]).run E.P w=.ok v w'→(execOp a.eval o).run E.P w=.ok (.value v) w':=by
     intro v w' h
     unfold execOp;rw [ho]
     simp only [resolve,pure_bind,invoke,builtin]
     rw [Sem.run_bind,show (Array.map a.eval #[x,y])=#[vx,vy] by simp [hvx,hvy],h];rfl
    have hsrc':Src E.P it.size u vy m.length news w:=by rw [←hce];exact hsrc
    have newrow:∀ (base:Option Addr)(l:List PV)(sCap:Nat)(cs:List Value),RowsH E.P w (Mut Mo β st.B) (GH β st.B) e l cs→l.length * E.P.cellsOf e≤cs.length→(∀ c ∈ cs,c.oneCell'=true)→(Builtin.firstCells it.size l.length (.slice base l.length sCap)).run E.P w.drew=.ok (cs.take (l.length * E.P.cellsOf e)).toArray w.drew→vx=.slice base l.length sCap →
      sCap < l.length+m.length→l.length≤sCap→roomy (l.length+m.length) (E.P.bytesOf e)=true →
      ∃ (c':Nat)(cs':List Value)(w':World),(execOp a.eval o).run E.P w=.ok (.value (.slice (some ⟨w.heap.size,0,none⟩) (l.length+m.length) c')) w'∧w'.heap=w.heap.push (.cells cs'.toArray e (0,0))∧w'.os=w.os∧w'.output=w.output ∧
       l.length+m.length≤c'∧c'≤maxLen∧cs'.length=c' * E.P.cellsOf e∧(∀ x ∈ cs',x.oneCell'=true)∧RowsH E.P w (Mut Mo β st.B) (GH β st.B) e (l++m) cs':=by
     intro base l sCap cs hrows hcl h1 hfc hvx' hgt hle hroom
     simp only [roomy,Bool.and_eq_true,decide_eq_true_eq] at hroom
     obtain ⟨r1,r2⟩:=hroom
     have hge:=grownCap_ge w (l.length+m.length) sCap e
     have hcm:=grownCap_le_maxLen w (l.length+m.length) sCap e (by unfold maxLen;omega)
     obtain ⟨zo1,zo2⟩:=zero_one hL he z3 z4 (grownCap w (l.length+m.length) sCap e - (l.length+m.length))
     have hlast:=run_append_grow_src w u u o.type e it zv h2 i1 i2 base l.length sCap (cs.take (l.length * E.P.cellsOf e)) hfc vy m.length news hsrc' hgt (by omega)
      (growslice_fits hgt (by rw [←hbe];omega))
     rw [←hvx'] at hlast
     refine ⟨_,cs.take (l.length * E.P.cellsOf e)++(news++(Builtin.zeroCells zv.cells (grownCap w (l.length+m.length) sCap e - (l.length+m.length))).toList),_,hrun hlast,?_,rfl,rfl,hge,hcm,?_,?_,RowsH.app hrows hnr hcl hnl⟩
     ·show w.heap.push _=w.heap.push _
      congr 2
      apply Array.ext'
      simp
     ·have hzl:(Builtin.zeroCells zv.cells (grownCap w (l.length+m.length) sCap e - (l.length+m.length))).toList.length=(grownCap w (l.length+m.length) sCap e - (l.length+m.length)) * E.P.cellsOf e:=zo2
      rw [List.length_append,List.length_append,List.length_take,hzl,hnl,Nat.min_eq_left hcl,←Nat.add_mul,←Nat.add_mul]
      congr 1;omega
     ·intro c hc
      rcases List.mem_append.1 hc with hc|hc
      ·exact h1 c (List.mem_of_mem_take hc)
      ·rcases List.mem_append.1 hc with hc|hc
       ·exact hsrc.one c hc
       ·exact zo1 c hc
    rcases hrow_of hR hrt h2 hx hk1 with ⟨rfl,rfl⟩|⟨i,l,b,c,cs,fr,rfl,rfl,hi,hβ,hil,_,hb,hfr,hlc,hcm,hcl,hone,hrows⟩
    ·-- a nil slice
     have hm0:0 < m.length:=by simpa [PV.isRs] using hne
     simp only [hgone,hels,List.length_nil,Nat.zero_add,List.nil_append] at h9
     obtain ⟨c',cs',w',k1,k2,k3,k4,k5,k6,k7,k8,k9⟩:=newrow none [] 0 [] (fun i p hi=>by simp at hi) (by simp) (by simp) (by simpa using run_firstCells_none w.drew it.size 0 0 0) rfl (by simp;omega) (by simp) (by simpa [hels] using hroom)
     simp only [List.length_nil,Nat.zero_add,List.nil_append] at k1 k5 k9
     have hst:=HStep.push (c:=c') hH hR (.row e m) (w':=w') (by rw [k2];simp) (fun b hb=>by rw [k2];exact push_old hb) k3 k4
     have hR':=hst.rel hR fun hsame j o' hj=>by
      by_cases hjl:j=(Obs.hps st.B).length
      ·subst hjl
       rw [List.getElem?_append_right (Nat.le_refl _),Nat.sub_self] at hj
       replace hj:HE.ob (.row e m)=some o':=hj
       injection hj with hj;subst hj
       exact .inr ⟨he,w.heap.size,c',cs',(0,0),at_self _ _ _,by rw [k2];exact push_new,fun o _=>by omega,k5,k6,k7,k8,fun i p hi=>(k9 i p hi).mono hsame.st hsame.hp⟩
      ·left
       have hlt:j < (Obs.hps st.B).length:=by
        rcases Nat.lt_or_ge j (Obs.hps st.B).length with h|h
        ·exact h
        ·rw [List.getElem?_eq_none (by simp;omega)] at hj;cases hj
       rw [List.getElem?_append_left hlt] at hj
       have hg:=heap_at.2 hj
       exact ⟨hg,by unfold Beta.at;rw [if_neg (by omega)],fun b c hb=>by rw [k2];exact push_old (hR.lt _ _ b c hg hb)⟩
     refine ⟨_,h9,fun next Q hn=>?_⟩
     unfold Oper.wp
     rw [k1,Oper.upon_value]
     refine hn _ _ (Inv.put (st:={ st with B:=Obs.setH (Obs.hps st.B++[.row e m]) st.B }) hdef ⟨_,hR',hst.kp hk,.hval (pack1 (by simp [isAggT,h2])) (.sl hrt h2 (c:=c') ⟨by rw [setH_hps hH];simp,at_self _ _ _⟩ k5 k6)⟩ o.dst)
    ·have hel:hels (Obs.hps st.B) (.rs i l.length)=l:=by simp only [hels,hrowOf,hi]
     simp only [hgone,hel] at h9
     rw [hel] at hroom
     have hg:Obs.get st.B (HB+i)=some (.hrow e l):=heap_at.2 (by rw [hi];rfl)
     have hlcs:l.length * E.P.cellsOf e≤cs.length:=by rw [hcl];exact Nat.mul_le_mul_right _ hlc
     have fin:∀ {b2 c2:Nat}{w':World}{cs':List Value}{fr':Nat × Nat},(execOp a.eval o).run E.P w=.ok (.value (.slice (some ⟨b2,0,none⟩) (l.length+m.length) c2)) w'→(b2=b∨(w.heap.size≤b2∧b2 < w'.heap.size))→w.heap.size≤w'.heap.size →
       (∀ x,x < w.heap.size→x≠b→w'.heap[x]?=w.heap[x]?)→w'.os=w.os→w'.output=w.output→w'.heap[b2]?=some (.cells cs'.toArray e fr')→(∀ o,o < cs'.length→fr'.1=fr'.2∨cs'.length≤fr'.1)→l.length+m.length≤c2→c2≤maxLen →
       cs'.length=c2 * E.P.cellsOf e→(∀ x ∈ cs',x.oneCell'=true)→RowsH E.P w (Mut Mo β st.B) (GH β st.B) e (l++m) cs'→EOk E w0 F Mo o K r a w:=by
      intro b2 c2 w' cs' fr' k1 kb ks kold k3 k4 k2 kf k5 k6 k7 k8 k9
      have hst:=HStep.app (b2:=b2) (c2:=c2) hH hR hg hβ (.row e (l++m)) kb ks kold k3 k4
      have hR':=hst.rel hR fun hsame j o' hj=>by
       by_cases hjl:j=(Obs.hps st.B).length
       ·subst hjl
        rw [List.getElem?_append_right (by simp),List.length_set,Nat.sub_self] at hj
        replace hj:HE.ob (.row e (l++m))=some o':=hj
        injection hj with hj;subst hj
        exact .inr ⟨he,b2,c2,cs',fr',at_self _ _ _,k2,kf,by simpa using k5,k6,k7,k8,fun i p hi=>(k9 i p hi).mono hsame.st hsame.hp⟩
       ·exact .inl (HStep.app_others hR hg hβ kold hj hjl)
      refine ⟨_,h9,fun next Q hn=>?_⟩
      unfold Oper.wp
      rw [k1,Oper.upon_value]
      refine hn _ _ (Inv.put (st:={ st with B:=Obs.setH ((Obs.hps st.B).set i .gone++[.row e (l++m)]) st.B }) hdef ⟨_,hR',hst.kp hk,.hval (pack1 (by simp [isAggT,h2])) (.sl hrt h2 (c:=c2) ⟨by rw [setH_hps hH];simp,at_self _ _ _⟩ k5 k6)⟩ o.dst)
     by_cases hfit:l.length+m.length≤c
     ·have hmc:=Nat.mul_le_mul_right (E.P.cellsOf e) hfit
      rw [Nat.add_mul] at hmc
      have hnin:l.length * E.P.cellsOf e+news.length≤cs.length:=by rw [hnl,hcl];exact hmc
      have hlast:=run_append_room_src w u u o.type e it h2 i1 b 0 l.length c vy m.length news hsrc' hfit
       (fun j hj=>by
        unfold World.cell?
        rw [←hce]
        simp only [hb,Option.isSome_none,Bool.false_eq_true,if_false]
        simp;omega)
       (fun j hj=>by
        unfold World.frozen?
        rw [←hce]
        simp only [hb]
        have:¬ (fr.1≤0+l.length * E.P.cellsOf e+j∧0+l.length * E.P.cellsOf e+j < fr.2):=by have:=hfr (0+l.length * E.P.cellsOf e+j) (by omega);omega
        simp only [Bool.and_eq_false_iff,decide_eq_false_iff_not]
        rcases Nat.lt_or_ge (0+l.length * E.P.cellsOf e+j) fr.1 with h|h
        ·exact .inl (by omega)
        ·exact .inr (fun h'=>this ⟨h,h'⟩))
      rw [←hce,Nat.zero_add] at hlast
      have hblk:=setCells_block b news (l.length * E.P.cellsOf e) w cs e fr hb hnin
      refine fin (hrun hlast) (.inl rfl) (by rw [setCells_size];exact Nat.le_refl _) (fun y hy hne=>setCells_other b y hne news _ w) (setCells_os b news _ w).1 (setCells_os b news _ w).2 hblk (fun o ho=>by rw [splice_len hnin] at ho ⊢;exact hfr o ho) hfit hcm (by rw [splice_len hnin];exact hcl) (fun x hx=>?_) ?_
      ·rcases mem_splice hx with hx|hx
       ·exact hone x hx
       ·exact hsrc.one x hx
      ·exact RowsH.app (rest:=cs.drop (l.length * E.P.cellsOf e+news.length)) hrows hnr hlcs hnl
     ·obtain ⟨c',cs',w',k1,k2,k3,k4,k5,k6,k7,k8,k9⟩:=newrow (some ⟨b,0,none⟩) l c cs hrows hlcs hone (by
       have:=run_firstCells_some (P:=E.P) w.drew it.size l.length ⟨b,0,none⟩ l.length c (cs.take (l.length * E.P.cellsOf e)) (by rw [List.length_take,Nat.min_eq_left hlcs,hce]) (fun j v hj=>by
        have hj':(sub cs 0 (l.length * E.P.cellsOf e))[j]?=some v:=hj
        have:=cell_block hb j _ hj'
        simpa using this)
       exact this) rfl (by omega) hlc hroom
      exact fin k1 (.inr ⟨Nat.le_refl _,by rw [k2];simp⟩) (by rw [k2];simp) (fun x hx _=>by rw [k2];exact push_old hx) k3 k4 (by rw [k2];exact push_new) (fun o _=>by omega) k5 k6 k7 k8 k9
  ·cases h

theorem opEH_sound (hL:laidOutB E.P=true)(hH:Obs.hasH st.B=true)(hI:Inv E.P w0 F Mo st a w){o:Oper}(h:opEH E o st K=some r):EOk E w0 F Mo o K r a w:=by
 cases hop:o.op with
 | store t x y=>exact e_hstore hL hH hI hop h
 | call c =>
  obtain ⟨callee,args,ts⟩:=c
  cases callee with
  | builtin b =>
   cases b with
   | append=>exact e_happend hL hH hI hop h
   | copy=>exact e_hcopy hL hH hI hop h
   | _=>unfold opEH at h;rw [hop] at h;cases h
  | _=>unfold opEH at h;rw [hop] at h;cases h
 | _=>unfold opEH at h;rw [hop] at h;cases h

end
end Go.X
namespace Go.X
open Go
section
variable {E : Env} {w0 : World} {F : Foot} {Mo : Nat → Prop} {st : St} {a : Act} {w : World}

structure Free (E:Env)(o:Oper)(st:St):Prop where
 dst:(match o.op with|.box _ _|.buildSlice _ _ _|.makeSlice _ _ _|.convert _ _ _|.makeMap _ _|.alloc _=>true|_=>false)=true→Obs.get st.B (o.dst.getD 0)=none
 rows:∀ t,o.op=.alloc t→∀ x ∈ zeroRows E (o.dst.getD 0) 0 (fieldsZ E.P t),x.1 < HL→Obs.get st.B x.1=none

theorem opQ0_sound (hL:laidOutB E.P=true)(hC:OracleOk E.P E.C) {β:Beta}(hR:Rel E.P Mo β st.T st.B a.tmps.toList w)(hk:Kp w0 F β st.B w){o:Oper}(hlo:o.dst.getD 0 < lowB)(hfree:Free E o st){K:SV→Obs→Option Out}{r:Out}
  (h:opQ0 E o st K=some r):QOk E w0 F Mo β o st K r a w:=by
 cases hop:o.op with
 | move x=>exact q_move hR hk hlo (.inl hop) h
 | assign x=>exact q_move hR hk hlo (.inr hop) h
 | pick c x y=>exact q_pick hR hk hop h
 | alloc t=>exact q_alloc hL hR hk hop (hfree.dst (by rw [hop])) hlo (hfree.rows t hop) h
 | box t x=>exact q_box hL hR hk hop (hfree.dst (by rw [hop])) hlo h
 | build t ps=>exact q_build hL hR hk hop h
 | buildSlice t n ps=>exact q_buildSlice hL hR hk hop (hfree.dst (by rw [hop])) hlo h
 | load t x=>exact q_load hL hR hk hop h
 | nilCheck x=>exact q_nilCheck hR hk hop h
 | fieldAddr t x f=>exact q_fieldAddr hL hR hk hop h
 | indexAddr t x i=>exact q_indexAddr hL hR hk hop h
 | index t x i=>exact q_index hL hR hk hop h
 | field t x f=>exact q_field hR hk hop h
 | extract x i=>exact q_extract hR hk hop h
 | slice t x lo hi mx =>
  cases mx with
  | none=>exact q_slice hR hk hop h
  | some m=>unfold opQ0 at h;rw [hop] at h;cases h
 | binOp op t x y u=>exact q_binOp hR hk hop h
 | unOp u t x=>exact q_unop hR hk hop h
 | convert s t x=>exact q_convert hL hR hk hop (hfree.dst (by rw [hop])) hlo h
 | makeFunc f first caps =>
  cases f with
  | func f=>exact q_makeFunc hR hk hop h
  | _=>unfold opQ0 at h;rw [hop] at h;cases h
 | makeSlice t l c=>exact q_makeSlice hL hR hk hop (hfree.dst (by rw [hop])) hlo h
 | makeMap t r =>
  cases r with
  | none=>exact q_makeMap hR hk hop (hfree.dst (by rw [hop])) hlo h
  | some _=>unfold opQ0 at h;rw [hop] at h;cases h
 | lookup t x i c =>
  cases c with
  | false=>exact q_lookup hL hR hk hop h
  | true=>unfold opQ0 at h;rw [hop] at h;cases h
 | call c =>
  obtain ⟨callee,args,ts⟩:=c
  cases callee with
  | builtin b =>
   cases b with
   | len=>exact q_len hR hk hop h
   | min=>exact q_minmax hR hk (.inl rfl) hop h
   | max=>exact q_minmax hR hk (.inr rfl) hop h
   | _=>unfold opQ0 at h;rw [hop] at h;cases h
  | value x =>
   cases x with
   | func f=>exact q_call hC hR hop h
   | _=>unfold opQ0 at h;rw [hop] at h;cases h
  | _=>unfold opQ0 at h;rw [hop] at h;cases h
 | _=>unfold opQ0 at h;rw [hop] at h;cases h

theorem opQ_sound (hL:laidOutB E.P=true)(hC:OracleOk E.P E.C) {β:Beta}(hR:Rel E.P Mo β st.T st.B a.tmps.toList w)(hk:Kp w0 F β st.B w){o:Oper}(hlo:o.dst.getD 0 < lowB)(hfree:Free E o st){K:SV→Obs→Option Out}{r:Out}
  (h:opQ E o st K=some r):QOk E w0 F Mo β o st K r a w:=by
 unfold opQ at h
 cases hp:hpOp E o with
 | true =>
  rw [hp,cond_true] at h
  obtain ⟨hH,h⟩:=cond_some h
  exact opH_sound hL hH hR hk h
 | false =>
  rw [hp,cond_false] at h
  exact opQ0_sound hL hC hR hk hlo hfree h

theorem args_rs {β:Beta}(hR:Rel E.P Mo β st.T st.B a.tmps.toList w)(args:List Operand)(t:TypeId):∀ (i:Nat)(s:SV)(v:Value),(args.map (st.get E.P t))[i]?=some s→(args.map a.eval)[i]?=some v→RS E.P w (Mut Mo β st.B) β st.B s v:=by
 intro i s v hs hv
 rw [List.getElem?_map] at hs hv
 cases hx:args[i]? with
 | none=>rw [hx] at hs;cases hs
 | some x =>
  rw [hx] at hs hv
  injection hs with hs;injection hv with hv
  subst hs;subst hv
  exact get_sound hR t x

theorem freeze_heap (w:World)(b n:Nat)(x:Nat):(w.freeze ⟨b,n,none⟩ 1).heap[x]?=if x=b then (w.heap[x]?).map (fun|.cells c elem (lo,hi)=>.cells c elem (if lo==hi then (n,n+1) else (min lo n,max hi (n+1)))|o=>o) else w.heap[x]?:=by
 unfold World.freeze
 rw [if_neg (by decide)]
 simp only [Array.getElem?_modify]
 by_cases h:x=b
 ·rw [if_pos h.symm,if_pos h];rfl
 ·rw [if_neg (Ne.symm h),if_neg h]

theorem conv_own {β:Beta}(hR:Rel E.P Mo β st.T st.B a.tmps.toList w)(hk:Kp w0 F β st.B w){o:Oper}{uu:TypeId}{dd:Nat}(h:convA E o st=some (.own uu dd))(hfull:fullRow (Obs.get st.B dd)=true) :
  ∃ v w',(execOp a.eval o).run E.P w=.ok (.value v) w'∧Rel E.P Mo β st.T st.B a.tmps.toList w'∧Kp w0 F β st.B w'∧RS E.P w' (Mut Mo β st.B) β st.B (.own uu dd) v:=by
 unfold convA at h
 split at h
 ·rename_i s t x ho
  have hx:=get_sound hR o.type x
  generalize st.get E.P o.type x=sx at h hx
  generalize hvx:a.eval x=vx at hx
  split at h
  ·rename_i u d e hue
   obtain ⟨hc,hK⟩:=cond_some h
   clear h
   injection hK with hK
   injection hK with hK1 hK2
   subst hK1;subst hK2
   rw [Bool.and_eq_true] at hc
   obtain ⟨hst,hb8⟩:=hc
   have hst:s=t:=by simpa using hst
   subst hst
   cases hu8:E.P.underlying e with
   | none=>rw [hu8] at hb8;cases hb8
   | some de =>
    rw [hu8] at hb8
    split at hb8
    ·rename_i hde
     injection hde with hde;subst hde
     cases hx with
     | ownNil h1 h2 h3=>rw [h2] at hfull;cases hfull
     | @own _ _ e' l b c h1 h2 h3 h4 =>
      have hrun:(execOp a.eval o).run E.P w=.ok (.value (.slice (some ⟨b,0,none⟩) l.length c)) (match w.shape? b with|some (_,n)=>w.freeze ⟨b,n,none⟩ 1|none=>w):=by
       unfold execOp;rw [ho]
       simp only
       rw [hvx,Sem.run_bind]
       simp only [convert,Sem.run_bind,run_underlying hue,run_underlying hu8,Result.andThen_ok,beq_self_eq_true,markStringish,run_shape]
       cases w.shape? b with
       | none=>simp
       | some y=>simp
      obtain ⟨hez,hRO⟩:=hR.ob d _ h2
      rcases hRO with ⟨g1,_⟩|⟨b',c',cs,fr,g1,g2,g3,g4,g5,g6,g7,g8⟩
      ·rw [g1] at h3;cases h3
      ·rw [g1] at h3;injection h3 with h3;injection h3 with hb hcc;subst hb;subst hcc
       have hsh:w.shape? b'=some (e',cs.length):=by unfold World.shape?;rw [g2];simp
       rw [hsh] at hrun
       simp only at hrun
       have hheap:=freeze_heap w b' cs.length
       have hnew:(w.freeze ⟨b',cs.length,none⟩ 1).heap[b']?=some (.cells (List.toArray cs) e' (if fr.1==fr.2 then (cs.length,cs.length+1) else (min fr.1 cs.length,max fr.2 (cs.length+1)))):=by
        rw [hheap,if_pos rfl,g2];rfl
       have hold:∀ y,y≠b'→(w.freeze ⟨b',cs.length,none⟩ 1).heap[y]?=w.heap[y]?:=fun y hy=>by rw [hheap,if_neg hy]
       have hsz:(w.freeze ⟨b',cs.length,none⟩ 1).heap.size=w.heap.size:=by unfold World.freeze;rw [if_neg (by decide)];simp
       have hos:(w.freeze ⟨b',cs.length,none⟩ 1).os=w.os∧(w.freeze ⟨b',cs.length,none⟩ 1).output=w.output:=by unfold World.freeze;rw [if_neg (by decide)];exact ⟨rfl,rfl⟩
       have hself:∀ e2,Obs.get (Obs.ins d (.row e' l) (Obs.del d st.B)) e2=Obs.get st.B e2:=by
        intro e2
        rw [Obs.get_ins (row_low h2),Obs.get_del (row_low h2)]
        by_cases hde:d=e2
        ·subst hde;rw [if_pos rfl,h2]
        ·rw [if_neg hde,if_neg hde]
       have hsame:=same_store (w':=w.freeze ⟨b',cs.length,none⟩ 1) (o':=.row e' l) hR (row_low h2) h2 g1 hold (fun q off hq=>hq) (fun e l hl=>⟨l,hl,rfl⟩)
       have hR':=hR.store (w':=w.freeze ⟨b',cs.length,none⟩ 1) (o':=.row e' l) (row_low h2) h2 g1 hsz hold (fun q off hq=>hq) (fun e l hl=>⟨l,hl,rfl⟩)
        ⟨hez,.inr ⟨b',c',cs,_,g1,hnew,fun o hoo=>by
         have:=g3 o hoo
         by_cases hfe:fr.1=fr.2
         ·rw [if_pos (by simpa using hfe)];exact .inr (Nat.le_refl _)
         ·rw [if_neg (by simpa using hfe)]
          rcases this with this|this
          ·exact absurd this hfe
          ·exact .inr (by simp only;omega),g4,g5,g6,g7,fun i p hp=>(g8 i p hp).mono hsame.st⟩⟩
       have hR2:=hR'.ext (by rw [Obs.hps_ins (row_low h2),Obs.hps_del (row_low h2)]) hself
       have hk':Kp w0 F β (Obs.ins d (.row e' l) (Obs.del d st.B)) (w.freeze ⟨b',cs.length,none⟩ 1) :=
        hk.store h2 g1 (by rw [hsz];exact Nat.le_refl _) (fun x hx _=>hold x hx) (fun y hy=>.inl (by
         obtain ⟨e2,o2,c2,k1,k2⟩:=hy
         rw [hself] at k1
         exact ⟨e2,o2,c2,k1,k2⟩)) (fun n o' hn=>⟨rfl,o',by rw [←hself];exact hn,fun t s hts=>⟨s,hts⟩⟩) hos.1 hos.2 hsame.hp
       have hk2:=hk'.ext (by rw [Obs.hps_ins (row_low h2),Obs.hps_del (row_low h2)]) hself
       exact ⟨_,_,hrun,hR2,hk2,.own h1 h2 g1 h4⟩
    ·cases hb8
  ·cases h
 ·cases h
theorem e_convert (hI:Inv E.P w0 F Mo st a w){o:Oper}{s t:TypeId}{x:Operand}(ho:o.op=.convert s t x){K:St→Option Out}{r:Out}(h:opE0 E o st K=some r):EOk E w0 F Mo o K r a w:=by
 obtain ⟨hdef,β,hR,hk⟩:=hI
 unfold opE0 at h
 rw [ho] at h
 simp only at h
 split at h
 ·rename_i u d e hg hue
  obtain ⟨hc,hK⟩:=cond_some h
  rw [Bool.and_eq_true,Bool.and_eq_true] at hc
  have hA:convA E o st=some (.own u d):=by
   unfold convA
   rw [ho]
   simp only
   rw [hg,hue]
   simp only [hc.1.1,hc.1.2,Bool.and_self,cond_true]
  have hf:fullRow (Obs.get st.B d)=true:=by
   have:=hc.2
   revert this
   cases Obs.get st.B d with
   | none=>exact id
   | some ob =>
    cases ob with
    | row e l=>cases l <;> exact id
    | map _ _=>exact id
    | box t s=>exact id
    | hp _=>exact id
    | hvar _ _=>exact id
    | hrow _ _=>exact id
  obtain ⟨v,w',h1,h2,h3,h4⟩:=conv_own (a:=a) hR hk hA hf
  refine ⟨_,hK,fun next Q hn=>?_⟩
  unfold Oper.wp
  rw [h1,Oper.upon_value]
  exact hn _ _ (Inv.put hdef ⟨β,h2,h3,h4⟩ o.dst)
 ·cases h


theorem opE0_sound (hL:laidOutB E.P=true)(hC:OracleOk E.P E.C)(hI:Inv E.P w0 F Mo st a w){o:Oper}(hlo:o.dst.getD 0 < lowB){K:St→Option Out}{r:Out}(h:opE0 E o st K=some r):EOk E w0 F Mo o K r a w:=by
 cases hop:o.op with
 | store t x y=>exact e_store hL hI hop h
 | mapUpdate t m i v=>exact e_mapUpdate hL hI hop h
 | convert s t x=>exact e_convert hI hop h
 | call c =>
  obtain ⟨callee,args,ts⟩:=c
  cases callee with
  | builtin b =>
   cases b with
   | append=>exact e_append hL hI hlo hop h
   | _=>unfold opE0 at h;rw [hop] at h;cases h
  | value x =>
   cases x with
   | func f =>
    obtain ⟨hdef,β,hR,hk⟩:=hI
    unfold opE0 at h;rw [hop] at h
    simp only at h
    refine e_call hC hdef hR hk hlo (vs:=args.toList.map a.eval) (by simp) (args_rs hR args.toList 0) ?_ h
    rw [run_callOp hop]
    congr 2
    apply Array.ext';simp
   | tmp i =>
    obtain ⟨hdef,β,hR,hk⟩:=hI
    unfold opE0 at h;rw [hop] at h
    simp only at h
    have hx:=get_sound hR 0 (.tmp i)
    have hg:st.get E.P 0 (.tmp i)=st.T.getD i .dead:=rfl
    rw [hg] at hx
    generalize st.T.getD i .dead=s at h hx
    generalize hv:a.eval (.tmp i)=v at hx
    cases hx with
    | @fn f caps cv vs hc1 hc2 hc3 =>
     simp only at h
     have hcv:cv.toList=(List.range caps.length).map vs:=by
      apply List.ext_getElem?
      intro k
      rw [Array.getElem?_toList,List.getElem?_map]
      by_cases hk:k < caps.length
      ·rw [hc2 k hk,List.getElem?_range hk];rfl
      ·rw [Array.getElem?_eq_none (by omega),List.getElem?_eq_none (by simpa using hk)];rfl
     refine e_call hC hdef hR hk hlo (vs:=args.toList.map a.eval++cv.toList) (by simp [hc1]) (fun k s v hs hv=>?_) ?_ h
     ·by_cases hk:k < (args.toList.map (st.get E.P 0)).length
      ·rw [List.getElem?_append_left hk] at hs
       rw [List.getElem?_append_left (by simpa using hk)] at hv
       exact args_rs hR args.toList 0 k s v hs hv
      ·rw [List.getElem?_append_right (by omega)] at hs
       rw [List.getElem?_append_right (by simpa using hk)] at hv
       have hlen:(args.toList.map (st.get E.P 0)).length=(args.toList.map a.eval).length:=by simp
       rw [←hlen] at hv
       have hkl:=get_lt hs
       rw [Array.getElem?_toList,hc2 _ hkl] at hv
       injection hv with hv;subst hv
       exact hc3 _ s hs
     ·unfold execOp
      rw [hop]
      simp only [resolve]
      rw [hv]
      simp only [Deferred.ofValue,Sem.run_bind,Sem.run_pure,Result.andThen_ok,invoke,Array.empty_append]
      congr 2
      apply Array.ext';simp
    | _=>cases h
   | _=>unfold opE0 at h;rw [hop] at h;cases h
  | _=>unfold opE0 at h;rw [hop] at h;cases h
 | _=>unfold opE0 at h;rw [hop] at h;cases h

theorem opE_sound (hL:laidOutB E.P=true)(hC:OracleOk E.P E.C)(hI:Inv E.P w0 F Mo st a w){o:Oper}(hlo:o.dst.getD 0 < lowB){K:St→Option Out}{r:Out}(h:opE E o st K=some r):EOk E w0 F Mo o K r a w:=by
 unfold opE at h
 cases hp:hpEff E o st with
 | true =>
  rw [hp,cond_true] at h
  obtain ⟨hH,h⟩:=cond_some h
  exact opEH_sound hL hH hI h
 | false =>
  rw [hp,cond_false] at h
  exact opE0_sound hL hC hI hlo h

theorem free_retire (o:Oper)(st:St)(hlo:o.dst.getD 0 < HL):Free E o (retireOp E o st):=by
 refine ⟨fun h=>?_,fun t ht x hx hxl=>?_⟩
 ·unfold retireOp
  simp only
  split
  ·exact retire_none _ hlo
  ·exact retire_none _ hlo
  ·exact retire_none _ hlo
  ·exact retire_none _ hlo
  ·exact retire_none _ hlo
  ·exact retireAll_get_none _ (.inl (retire_none _ hlo))
  ·rename_i hop;rw [hop] at h;cases h
  ·rename_i h1 h2 h3 h4 h6 h5 _
   exfalso
   split at h
   ·exact h1 _ _ (by assumption)
   ·exact h2 _ _ _ (by assumption)
   ·exact h3 _ _ _ (by assumption)
   ·exact h4 _ _ _ (by assumption)
   ·exact h6 _ _ (by assumption)
   ·exact h5 _ (by assumption)
   ·cases h
 ·unfold retireOp
  simp only
  rw [ht]
  simp only
  exact retireAll_get_none _ (.inr ⟨List.mem_map.2 ⟨_,hx,rfl⟩,hxl⟩)

theorem opX_sound (hL:laidOutB E.P=true)(hC:OracleOk E.P E.C)(hI:Inv E.P w0 F Mo st a w){o:Oper}{K:St→Option Out}{r:Out}(h:opX E o st K=some r):EOk E w0 F Mo o K r a w:=by
 unfold opX at h
 simp only at h
 have hI2:=(hI.freeze o).retireOp o
 obtain ⟨hb,h⟩:=cond_none h
 have hlo:o.dst.getD 0 < lowB:=by simpa using hb
 have hfree:=free_retire (E:=E) o (freezeOp E o st) (lowHL hlo)
 generalize retireOp E o (freezeOp E o st)=st' at h hI2 hfree
 cases hE:isE E o st' with
 | true=>rw [hE,cond_true] at h;exact opE_sound hL hC hI2 hlo h
 | false =>
  rw [hE,cond_false] at h
  obtain ⟨hdef,β,hR,hk⟩:=hI2
  obtain ⟨s,os,h1,h2⟩:=(opQ_sound hL hC hR hk hlo hfree h).post hR hk
  exact ⟨_,h1,fun next Q hn=>h2 next Q fun v w' hp=>hn _ _ (Inv.put hdef hp o.dst)⟩

end
end Go.X
namespace Go.X
open Go

def QP (P:Program)(w0:World)(F:Foot)(Mo:Nat→Prop)(K:Kont)(r:Out):Exit→Act→World→Prop
 | .normal,a,w=>∃ st,Inv P w0 F Mo st a w∧K .normal st=some r
 | .ret,a,w=>∃ st,Inv P w0 F Mo st a w∧K .ret st=some r
 | .exit id,a,w=>∃ st,Inv P w0 F Mo st a w∧K (.exit id) st=some r
 | _,_,_=>False

section
variable {E : Env} {w0 : World} {F : Foot} {Mo : Nat → Prop} {st : St} {a : Act} {w : World}

theorem set_same {T:List SV}{i:Nat}{s:SV}(h:T.getD i .dead=s)(hs:s≠.dead):T.set i s=T:=by
 apply List.ext_getElem?
 intro j
 by_cases hij:i=j
 ·subst hij
  cases hg:T[i]? with
  | none=>rw [List.getD_eq_getElem?_getD,hg] at h;exact absurd h.symm hs
  | some x =>
   have:x=s:=by rw [List.getD_eq_getElem?_getD,hg] at h;exact h
   subst this
   rw [List.getElem?_set_self (get_lt hg)]
 ·rw [List.getElem?_set_ne hij]

theorem slot_at {P:Program}{M:Nat→Prop} {β:Beta}{vs:List Value}{T:List SV}(hlen:vs.length=T.length)(hslot:∀ (i:Nat)(s:SV)(v:Value),T[i]?=some s→vs[i]?=some v→RS P w M β st.B s v){i:Nat}{s:SV}(h:T.getD i .dead=s)(hs:s≠.dead) :
  ∃ v,vs[i]?=some v∧RS P w M β st.B s v:=by
 cases hg:T[i]? with
 | none=>rw [List.getD_eq_getElem?_getD,hg] at h;exact absurd h.symm hs
 | some x =>
  have:x=s:=by rw [List.getD_eq_getElem?_getD,hg] at h;exact h
  subst this
  have hv:=List.getElem?_eq_getElem (show i < vs.length by rw [hlen];exact get_lt hg)
  exact ⟨_,hv,hslot i _ _ hg hv⟩

theorem Inv.undef (hI:Inv E.P w0 F Mo st a w)(d:Option Tmp):Inv E.P w0 F Mo (st.put d .undef) (a.put d Go.undef) w:=by
 obtain ⟨hd,β,h1,h2⟩:=hI
 exact Inv.put hd ⟨β,h1,h2,.undef⟩ d

theorem guard_sound (hI:Inv E.P w0 F Mo st a w){ops:Array Oper}{o:Oper}{j:Nat}{want:Bool}(hg:o.guard=some (j,want)){dj:Tmp}(hd:(ops[j]?).bind (·.dst)=some dj) :
  (∀ b,st.T.getD dj .dead=.bool b→Region.wanted o (yielded ops a.tmps)=(b==want))∧(st.T.getD dj .dead=.undef→Region.wanted o (yielded ops a.tmps)=false):=by
 obtain ⟨_,β,hR,_⟩:=hI
 constructor
 ·intro b hb
  obtain ⟨v,hv,hr⟩:=slot_at hR.len hR.slot hb (by simp)
  cases hr with
  | bool =>
   have:a.tmps[dj]?=some (.bool b):=by rw [←Array.getElem?_toList];exact hv
   unfold Region.wanted yielded
   rw [hg]
   simp only [hd,Option.bind_some,this]
   cases b <;> cases want <;> rfl
 ·intro hb
  obtain ⟨v,hv,hr⟩:=slot_at hR.len hR.slot hb (by simp)
  generalize hs:SV.undef=s at hr
  cases hr with
  | undef =>
   have:a.tmps[dj]?=some Go.undef:=by rw [←Array.getElem?_toList];exact hv
   unfold Region.wanted yielded
   rw [hg]
   simp only [hd,Option.bind_some,this]
   cases want <;> rfl
  | _=>cases hs

theorem RS.mask {P:Program}{M:Nat→Prop} {β:Beta}{B:Obs}(l:List Nat):∀ (T:List SV)(n i:Nat)(s:SV),(maskT l n T)[i]?=some s→s=.dead∨T[i]?=some s
 | [],_,_,_,h=>by simp [maskT] at h
 | x :: T,n,i,s,h=>by
  cases i with
  | zero =>
   simp only [maskT,List.getElem?_cons_zero,Option.some.injEq] at h
   cases hb:l.contains n with
   | true=>rw [hb,cond_true] at h;right;simp [h]
   | false=>rw [hb,cond_false] at h;left;exact h.symm
  | succ i =>
   have:=RS.mask (P:=P) (M:=M) (β:=β) (B:=B) l T (n+1) i s (by simpa [maskT] using h)
   simpa using this
theorem maskT_len (l:List Nat):∀ (n:Nat)(T:List SV),(maskT l n T).length=T.length
 | _,[]=>rfl
 | n,_ :: T=>by simp [maskT,maskT_len l (n+1) T]
theorem Inv.maskT {st:St}(h:Inv E.P w0 F Mo st a w)(l:List Nat):Inv E.P w0 F Mo { st with T:=X.maskT l 0 st.T } a w:=by
 obtain ⟨h1,β,hR,hk⟩:=h
 refine ⟨h1,β,⟨by rw [hR.len];exact (maskT_len l 0 st.T).symm,fun i s v hs hv=>?_,hR.ob,hR.inj,hR.lt,hR.out,hR.mo,hR.gl⟩,hk⟩
 rcases RS.mask (P:=E.P) (M:=Mut Mo β st.B) (β:=β) (B:=st.B) l st.T 0 i s hs with h|h
 ·subst h;exact .dead
 ·exact hR.slot i s v h hv
theorem Inv.msk {st:St}(h:Inv E.P w0 F Mo st a w)(key:Nat):Inv E.P w0 F Mo (st.msk E key) a w:=by
 unfold St.msk
 split
 ·exact h
 ·exact h.maskT _
theorem Inv.purge {st:St}(h:Inv E.P w0 F Mo st a w)(c:Code):Inv E.P w0 F Mo (st.purge E c) a w:=by
 unfold St.purge
 split
 ·exact h
 ·exact Inv.retireAll _ (h.maskT _)

theorem range_map (ops:Array Oper):(List.range ops.size).map (fun k=>ops[k]?)=ops.toList.map some:=by
 apply List.ext_getElem (by simp)
 intro j h1 h2
 have hj:j < ops.size:=by simpa using h1
 simp [hj]

theorem execOps_sound (hL:laidOutB E.P=true)(hC:OracleOk E.P E.C){ops:Array Oper}{K:St→Option Out}{r:Out}{Q:Exit→Act→World→Prop}(hQ:∀ st a w,Inv E.P w0 F Mo st a w→K st=some r→Q .normal a w) :
  ∀ (ks:List Nat)(l:List Oper){st:St}{a:Act}{w:World},ks.map (fun k=>ops[k]?)=l.map some→Inv E.P w0 F Mo st a w→execOps E ops l K st=some r→wpOps E.P ops Q ks a w
 | [],[],st,a,w,hl,hI,h=>hQ st a w hI h
 | [],_ :: _,_,_,_,hl,_,_=>by simp at hl
 | _ :: _,[],_,_,_,hl,_,_=>by simp at hl
 | k :: ks,o :: l,st,a,w,hl,hI,h=>by
  rw [List.map_cons,List.map_cons,List.cons.injEq] at hl
  obtain ⟨hk,hl'⟩:=hl
  unfold wpOps
  rw [hk]
  simp only
  have doit:∀ {st:St},Inv E.P w0 F Mo st a w→opX E o st (execOps E ops l K)=some r→o.wp E.P a w (wpOps E.P ops Q ks) Q:=by
   intro st hI h
   obtain ⟨st',h1,h2⟩:=opX_sound hL hC hI h
   exact h2 _ _ fun a' w' hI'=>execOps_sound hL hC hQ ks l hl' hI' h1
  unfold execOps at h
  cases hg:o.guard with
  | none =>
   rw [hg] at h
   simp only at h
   have hw:Region.wanted o (yielded ops a.tmps)=true:=by unfold Region.wanted;rw [hg]
   rw [if_pos hw]
   exact .inl (doit (hI.msk _) h)
  | some gw =>
   obtain ⟨j,want⟩:=gw
   rw [hg] at h
   simp only at h
   cases hd:(ops[j]?).bind (·.dst) with
   | none=>rw [hd] at h;cases h
   | some dj =>
    rw [hd] at h
    simp only at h
    obtain ⟨g1,g2⟩:=guard_sound hI hg hd
    cases hs:st.T.getD dj .dead with
    | bool b =>
     rw [hs] at h
     simp only at h
     have hw:=g1 b hs
     cases hb:b==want with
     | true =>
      rw [hb,cond_true] at h
      rw [if_pos (hw.trans hb)]
      have hbw:b=want:=by simpa using hb
      subst hbw
      have:st.setT dj (.bool b)=st:=by unfold St.setT;rw [set_same hs (by simp)]
      rw [this] at h
      exact .inl (doit hI h)
     | false =>
      rw [hb,cond_false] at h
      rw [if_neg (by rw [hw,hb];simp)]
      have hbw:(!want)=b:=by cases b <;> cases want <;> simp_all
      rw [hbw] at h
      have:st.setT dj (.bool b)=st:=by unfold St.setT;rw [set_same hs (by simp)]
      rw [this] at h
      exact execOps_sound hL hC hQ ks l hl' (hI.undef o.dst) h
    | undef =>
     rw [hs] at h
     simp only at h
     rw [if_neg (by rw [g2 hs];simp)]
     exact execOps_sound hL hC hQ ks l hl' (hI.undef o.dst) h
    | _=>rw [hs] at h;cases h

def DrawOk (E:Env)(ops:Array Oper):Prop :=
 ∀ (w0:World)(F:Foot)(Mo:Nat→Prop)(st:St)(a:Act)(w:World)(K:St→Option Out)(r:Out)(Q:Exit→Act→World→Prop),(∀ st a w,Inv E.P w0 F Mo st a w→K st=some r→Q .normal a w) →
  Inv E.P w0 F Mo st a w→execD E ops K st=some r→∀ id,(Code.region id ops true).wp E.P Q a w
def DrawsOk (E:Env):Code→Prop
 | .region _ ops true=>DrawOk E ops
 | .seq x y=>DrawsOk E x∧DrawsOk E y
 | .cond _ x y=>DrawsOk E x∧DrawsOk E y
 | .block _ c=>DrawsOk E c
 | .loop c=>DrawsOk E c
 | .scope c=>DrawsOk E c
 | _=>True

theorem loop_sound {P:Program}{c:Code}{body:Kont→St→Option Out}{K:Kont}{r:Out}
  (hbody:∀ (K:Kont){st:St}{a:Act}{w:World},Inv P w0 F Mo st a w→body K st=some r→c.wp P (QP P w0 F Mo K r) a w)(n:Nat) :
  ∀ {st:St}{a:Act}{w:World},Inv P w0 F Mo st a w→loopN body K n st=some r→∀ (b:Frame)(k:List Item)(cs:List Frame),∃ e a' w',QP P w0 F Mo K r e a' w'∧Arrives P (lone (b.at a (.code c :: .inLoop c :: k)) cs w) b k cs e a' w':=by
 induction n with
 | zero=>intro st a w _ h;cases h
 | succ n ih =>
  intro st a w hI h b k cs
  unfold loopN at h
  obtain ⟨e,a₁,w₁,hq,harr⟩:=hbody _ hI h b (.inLoop c :: k) cs
  cases e with
  | normal =>
   obtain ⟨st',h1,h2⟩:=hq
   obtain ⟨e₂,a₂,w₂,hq₂,harr₂⟩:=ih h1 h2 b k cs
   exact ⟨e₂,a₂,w₂,hq₂,.of_steps (Steps.trans harr (.one step_inLoop)) harr₂⟩
  | exit id =>
   have hq':QP P w0 F Mo K r (.exit id) a₁ w₁:=hq
   exact ⟨_,a₁,w₁,hq',.pass (x:=.inLoop c) rfl (fun _ _=>.inl (by simp)) harr⟩
  | goto l=>exact hq.elim
  | ret =>
   have hq':QP P w0 F Mo K r .ret a₁ w₁:=hq
   exact ⟨_,a₁,w₁,hq',.pass (x:=.inLoop c) rfl (fun _ _=>.inl (by simp)) harr⟩
  | panic ch=>exact hq.elim
  | outgrown=>exact hq.elim

theorem learn_same {P:Program}{c:Operand}{t:Bool}(h:st.get P 0 c=.bool t):st.learn c t=st:=by
 cases c with
 | tmp i =>
  have:st.T.getD i .dead=.bool t:=h
  show st.setT i (.bool t)=st
  unfold St.setT
  rw [set_same this (by simp)]
 | _=>rfl

theorem exec_sound (hL:laidOutB E.P=true)(hC:OracleOk E.P E.C){r:Out}:∀ (c:Code)(K:Kont){st:St}{a:Act}{w:World},DrawsOk E c→Inv E.P w0 F Mo st a w→exec E c K st=some r→c.wp E.P (QP E.P w0 F Mo K r) a w
 | .skip,K,st,a,w,_,hI,h=>wp_skip ⟨st,hI,h⟩
 | .region id ops true,K,st,a,w,hD,hI,h=>hD w0 F Mo st a w (K .normal) r _ (fun st a w hI h=>⟨st,hI,h⟩) hI h id
 | .region id ops false,K,st,a,w,hD,hI,h=>by
  apply wp_region
  have h':execOps E ops ops.toList (K .normal) st=some r:=h
  exact execOps_sound (Q:=QP E.P w0 F Mo K r) hL hC (fun st a w hI h=>⟨st,hI,h⟩) (List.range ops.size) ops.toList (range_map ops) hI h'
 | .seq x y,K,st,a,w,hD,hI,h=>by
  apply wp_seq
  refine wp_mono (exec_sound hL hC x (thenK (fun st=>exec E y K (st.msk E (3 * headOf y+1))) K) hD.1 hI h) fun e a w hq=>?_
  cases e with
  | normal =>
   obtain ⟨st',h1,h2⟩:=hq
   exact exec_sound hL hC y K hD.2 (h1.msk _) h2
  | exit id=>exact hq
  | ret=>exact hq
  | goto l=>exact hq.elim
  | panic ch=>exact hq.elim
  | outgrown=>exact hq.elim
 | .cond c x y,K,st,a,w,hD,hI,h=>by
  unfold exec at h
  have hc:RS E.P w (Mut Mo hI.2.choose st.B) hI.2.choose st.B (st.get E.P 0 c) (a.eval c):=get_sound hI.2.choose_spec.1 0 c
  cases hg:st.get E.P 0 c with
  | bool t =>
   rw [hg] at h hc
   simp only at h
   have hv:a.eval c=.bool t:=by
    generalize a.eval c=v at hc
    cases hc;rfl
   cases t with
   | true =>
    rw [cond_true,learn_same hg] at h
    exact wp_cond_true hv (exec_sound hL hC x K hD.1 hI h)
   | false =>
    rw [cond_false,learn_same hg] at h
    exact wp_cond_false hv (exec_sound hL hC y K hD.2 hI h)
  | _=>rw [hg] at h;cases h
 | .block id c,K,st,a,w,hD,hI,h=>by
  apply wp_block
  refine wp_mono (exec_sound hL hC c (blockK id K) hD hI h) fun e a w hq=>?_
  cases e with
  | normal=>exact hq
  | exit i =>
   obtain ⟨st',h1,h2⟩:=hq
   show if i=id then _ else _
   unfold blockK at h2
   by_cases hi:i=id
   ·subst hi
    rw [if_pos rfl]
    simp only [beq_self_eq_true,cond_true] at h2
    exact ⟨st',h1,h2⟩
   ·rw [if_neg hi]
    simp only [show (i==id)=false by simpa using hi,cond_false] at h2
    exact ⟨st',h1,h2⟩
  | ret=>exact hq
  | goto l=>exact hq.elim
  | panic ch=>exact hq.elim
  | outgrown=>exact hq.elim
 | .loop c,K,st,a,w,hD,hI,h=>by
  intro b k cs
  obtain ⟨e,a',w',hq,harr⟩:=loop_sound (body:=fun K st=>exec E c (purgeK E c K) st) (fun K st a w hI h=>by
   refine wp_mono (exec_sound hL hC c (purgeK E c K) hD hI h) fun e a w hq=>?_
   cases e with
   | normal =>
    obtain ⟨st',h1,h2⟩:=hq
    exact ⟨_,h1.purge c,h2⟩
   | exit id=>exact hq
   | ret=>exact hq
   | goto l=>exact hq.elim
   | panic ch=>exact hq.elim
   | outgrown=>exact hq.elim) E.fuel (hI.purge c) h b k cs
  exact ⟨e,a',w',hq,.of_steps (.one step_loop) harr⟩
 | .exit id,K,st,a,w,_,hI,h=>wp_exit ⟨st,hI,h⟩
 | .scope c,K,st,a,w,hD,hI,h=>by
  apply wp_scope_straight
  refine wp_mono (exec_sound hL hC c K hD hI h) fun e a w hq=>?_
  cases e with
  | goto l=>exact hq.elim
  | _=>exact hq
 | .ret,K,st,a,w,_,hI,h=>wp_ret ⟨st,hI,h⟩
 | .rangeFunc _ _ _ _,_,_,_,_,_,_,h=>by cases h
 | .label _,_,_,_,_,_,_,h=>by cases h
 | .goto _,_,_,_,_,_,_,h=>by cases h
 | .refuse _,_,_,_,_,_,_,h=>by cases h

end
end Go.X
namespace Go.X
open Go
section
variable {E : Env} {w0 : World} {F : Foot} {Mo : Nat → Prop} {st : St} {a : Act} {w : World}

theorem cellS_sound (hL:laidOutB E.P=true) {β:Beta}{vs:List Value}(hR:Rel E.P Mo β st.T st.B vs w){s:SV}{v:Value}{t:TypeId}(hx:RS E.P w (Mut Mo β st.B) β st.B s v)(hd:(cellS E st t s).isDead=false) :
  ∃ u,(do loadVar t (←asAddr v):Sem Value).run E.P w=.ok u w∧RS E.P w (Mut Mo β st.B) β st.B (cellS E st t s) u:=by
 cases hx with
 | @ptr d q b c off ob hob hβ hoff =>
  unfold cellS at hd ⊢
  simp only at hd ⊢
  rw [hob] at hd ⊢
  simp only at hd ⊢
  cases hc:(ob.typAt E.P q==some t)&&(E.P.underlying t).isSome with
  | false=>rw [hc] at hd;cases hd
  | true =>
   rw [hc,cond_true] at hd
   rw [cond_true]
   simp only [Bool.and_eq_true,beq_iff_eq] at hc
   obtain ⟨dd,hu⟩:=Option.isSome_iff_exists.1 hc.2
   obtain ⟨cs,e,fr,h1,h2,h3,h4⟩:=ob_read hL (hR.ob d ob hob) hoff hc.1 hβ
   rcases h4 with h4|⟨v,h4,h5⟩
   ·rw [h4] at hd;cases hd
   ·refine ⟨v,?_,h4⟩
    simp only [asAddr]
    rw [Sem.run_bind,Sem.run_pure,Result.andThen_ok]
    exact run_loadVar hu h5 (sub_len h2) (fun j x hj=>by
     have:=cell_block h1 j _ hj
     exact this)
 | _=>cases hd

theorem readRes_sound (hL:laidOutB E.P=true) {β:Beta}(hR:Rel E.P Mo β st.T st.B a.tmps.toList w)(rv:ResultVar)(hd:(readRes E st rv).isDead=false) :
  ∃ v,(match rv with|.tmp t=>pure (a.tmps.getD t Go.undef)|.cell p t=>do loadVar t (←asAddr (a.tmps.getD p Go.undef)):Sem Value).run E.P w=.ok v w∧RS E.P w (Mut Mo β st.B) β st.B (readRes E st rv) v:=by
 cases rv with
 | tmp t=>exact ⟨_,rfl,get_sound hR 0 (.tmp t)⟩
 | cell p t=>exact cellS_sound hL hR (get_sound hR 0 (.tmp p)) hd

theorem mapM_run {α:Type}{g:α→Sem Value}{P:Program}{w:World}:∀ {l:List α}{vs:List Value},l.length=vs.length→(∀ (i:Nat)(x:α)(v:Value),l[i]?=some x→vs[i]?=some v→(g x).run P w=.ok v w)→(l.mapM g).run P w=.ok vs w
 | [],[],_,_=>by simp
 | [],_ :: _,h,_=>by simp at h
 | _ :: _,[],h,_=>by simp at h
 | x :: l,v :: vs,h,hh=>by
  have h1:=hh 0 x v rfl rfl
  have h2:=mapM_run (g:=g) (l:=l) (vs:=vs) (by simpa using h) (fun i y u hy hu=>hh (i+1) y u (by simpa using hy) (by simpa using hu))
  simp [List.mapM_cons,h1,h2]

theorem run_results {fn:Func}{tmps:Array Value}{P:Program}{w:World}{rvs:List Value}(hlen:fn.results.toList.length=rvs.length)
  (h:∀ (i:Nat)(r:ResultVar)(v:Value),fn.results.toList[i]?=some r→rvs[i]?=some v→(match r with|.tmp t=>pure (tmps.getD t Go.undef)|.cell p t=>do loadVar t (←asAddr (tmps.getD p Go.undef)):Sem Value).run P w=.ok v w) :
  (results fn tmps).run P w=.ok (retV rvs) w:=by
 unfold results
 have hm:(fn.results.mapM fun|.tmp t=>pure (tmps.getD t Go.undef)|.cell p t=>do loadVar t (←asAddr (tmps.getD p Go.undef)):Sem (Array Value)).run P w=.ok rvs.toArray w:=by
  rw [Array.mapM_eq_mapM_toList,Sem.run_map,mapM_run hlen h];rfl
 rw [Sem.run_bind]
 refine (congrArg (fun r=>Result.andThen r _) hm).trans ?_
 rw [Result.andThen_ok]
 simp only [Sem.run_pure]
 congr 1
 match rvs with
 | []=>rfl
 | [v]=>rfl
 | v :: u :: l=>simp [retV]

theorem boxPV_sound {P:Program}{M:Nat→Prop} {β:Beta}{B:Obs}{u:TypeId}{s:SV}{v:Value}{p:PV}(hs:RS P w M β B s v)(h:boxPV P u s=some p):∃ cs,Pack P u v cs∧Rd P w M u p cs:=by
 by_cases hag:∃ u' l,s=.agg u' l
 ·obtain ⟨u',l,rfl⟩:=hag
  unfold boxPV at h
  simp only at h
  obtain ⟨hu,h⟩:=cond_some h
  have hu:u'=u:=by simpa using hu
  subst hu
  cases hp:plainsF P (fieldsOf P u') l with
  | none=>rw [hp] at h;cases h
  | some ps =>
   rw [hp] at h;injection h with h;subst h
   have:=RS.plains hs hp
   exact this.pvT (by simp [SV.pvT])
 ·have h2:s.pvT P u=some p:=by
   revert h
   cases s <;> first
    | exact id
    | exact absurd ⟨_,_,rfl⟩ hag
  exact hs.pvT h2

def SV.kept (keep:List Nat):SV→Bool
 | .ptr d _=>keep.contains d
 | .own _ d=>keep.contains d
 | .mp _ d=>keep.contains d
 | .agg _ _|.fn _ _|.tup _=>false
 | _=>true

theorem drop_kept {keep:List Nat}{s:SV}(h:s.kept keep=true){d:Nat}(hd:keep.contains d=false)(p:PV):s.drop d p=s:=by
 cases s with
 | own t e =>
  unfold SV.drop
  have:(e==d)=false:=by
   rw [Bool.eq_false_iff]
   intro h2
   have:e=d:=by simpa using h2
   subst this
   simp only [SV.kept] at h;rw [hd] at h;cases h
  rw [this];rfl
 | mp t e =>
  unfold SV.drop
  have:(e==d)=false:=by
   rw [Bool.eq_false_iff]
   intro h2
   have:e=d:=by simpa using h2
   subst this
   simp only [SV.kept] at h;rw [hd] at h;cases h
  rw [this];rfl
 | ptr e q =>
  unfold SV.drop
  have:(e==d)=false:=by
   rw [Bool.eq_false_iff]
   intro h2
   have:e=d:=by simpa using h2
   subst this
   simp only [SV.kept] at h;rw [hd] at h;cases h
  rw [this];rfl
 | agg _ _=>cases h
 | fn _ _=>cases h
 | tup _=>cases h
 | _=>rfl

theorem retireAll_kept_T {keep:List Nat}:∀ (L:List Nat)(T:List SV)(B:Obs),(∀ d ∈ L,keep.contains d=false)→(∀ s ∈ T,s.kept keep=true)→(retireAll L { T:=T,B:=B }).T=T
 | [],T,B,_,_=>rfl
 | d :: L,T,B,hL,hT=>by
  have h1:(({ T:=T,B:=B }:St).retire d).T=T:=by
   rcases Nat.lt_or_ge d HL with hdl|hdl
   rotate_left
   ·rw [retire_hi (by omega)]
   rw [retire_lo hdl]
   show (match Obs.get B d with|none=>({ T:=T,B:=B }:St)|some o=>{ T:=SV.drops d o.frozen T,B:=Obs.drop d o.frozen (Obs.del d B) }).T=T
   cases Obs.get B d with
   | none=>rfl
   | some o =>
    apply List.ext_getElem?
    intro i
    show (SV.drops d o.frozen T)[i]?=_
    rw [SV.drops_get]
    cases hg:T[i]? with
    | none=>rfl
    | some s=>exact congrArg some (drop_kept (hT s (List.mem_of_getElem? hg)) (hL d (by simp)) _)
  have h2:({ T:=T,B:=B }:St).retire d={ T:=T,B:=(({ T:=T,B:=B }:St).retire d).B }:=by
   cases hh:({ T:=T,B:=B }:St).retire d with
   | mk T' B'=>rw [hh] at h1;simp only at h1;rw [h1]
  show (retireAll L (({ T:=T,B:=B }:St).retire d)).T=T
  rw [h2]
  exact retireAll_kept_T L T _ (fun e he=>hL e (by simp [he])) hT

theorem retireAll_B:∀ (L:List Nat)(T T':List SV)(B:Obs),(retireAll L { T:=T,B:=B }).B=(retireAll L { T:=T',B:=B }).B
 | [],_,_,_=>rfl
 | d :: L,T,T',B=>by
  show (retireAll L (({ T:=T,B:=B }:St).retire d)).B=(retireAll L (({ T:=T',B:=B }:St).retire d)).B
  unfold St.retire
  cases d.blt HL with
  | false=>exact retireAll_B L _ _ _
  | true =>
   show (retireAll L (match Obs.get B d with|none=>({ T:=T,B:=B }:St)|some o=>{ T:=SV.drops d o.frozen T,B:=Obs.drop d o.frozen (Obs.del d B) })).B=(retireAll L (match Obs.get B d with|none=>({ T:=T',B:=B }:St)|some o=>{ T:=SV.drops d o.frozen T',B:=Obs.drop d o.frozen (Obs.del d B) })).B
   cases Obs.get B d with
   | none=>exact retireAll_B L _ _ _
   | some o=>exact retireAll_B L _ _ _

theorem Rel.slots {P:Program} {β:Beta}{T:List SV}{B:Obs}{vs:List Value}(h:Rel P Mo β T B vs w){T':List SV}{vs':List Value}(hlen:vs'.length=T'.length)
  (hs:∀ (i:Nat)(s:SV)(v:Value),T'[i]?=some s→vs'[i]?=some v→RS P w (Mut Mo β B) β B s v):Rel P Mo β T' B vs' w :=
 ⟨hlen,hs,h.ob,h.inj,h.lt,h.out,h.mo,h.gl⟩

theorem plain_kept {P:Program}{t:TypeId}{p:PV}{keep:List Nat}:(ofPV P t p).kept keep=true:=by
 unfold ofPV
 split <;> rfl

theorem outAll_spec {P:Program}{B:Obs}{keep:List Nat}:∀ {ts:List TypeId}{l r:List SV},outAll P B keep ts l=some r→r.length=l.length∧∀ (i:Nat)(s s':SV),l[i]?=some s→r[i]?=some s'→∃ t,outS P B keep t s=some s'
 | [],[],r,h=>by
  simp only [outAll,Option.some.injEq] at h;subst h
  exact ⟨rfl,fun i s s' h=>by simp at h⟩
 | [],_ :: _,_,h=>by simp [outAll] at h
 | _ :: _,[],_,h=>by simp [outAll] at h
 | t :: ts,s :: l,r,h=>by
  unfold outAll at h
  cases h1:outS P B keep t s with
  | none=>rw [h1] at h;cases h
  | some x =>
   cases h2:outAll P B keep ts l with
   | none=>rw [h1,h2] at h;cases h
   | some y =>
    rw [h1,h2] at h
    replace h:x :: y=r:=by injection h
    subst h
    obtain ⟨g1,g2⟩:=outAll_spec h2
    refine ⟨by simp [g1],fun i y' z' hy hz=>?_⟩
    cases i with
    | zero =>
     replace hy:s=y':=by simpa using hy
     replace hz:x=z':=by simpa using hz
     subst hy hz;exact ⟨t,h1⟩
    | succ i=>exact g2 i y' z' (by simpa using hy) (by simpa using hz)

theorem hasHp_ofPV {P:Program}{t:TypeId}{p:PV}:(ofPV P t p).hasHp=false:=by
 unfold ofPV
 split <;> rfl

theorem Ob.noH_box (t:TypeId)(s:SV):(Ob.box t s).noH=.box t (bif s.hasHp then .dead else s):=by
 show (bif s.hasHp then Ob.box t .dead else .box t s)=_
 cases s.hasHp <;> rfl
theorem noH_get {B:Obs}(hH:Obs.hasH B=true)(d:Nat):Obs.get (Obs.noH (Obs.del HL B)) d=if d < HL then (Obs.get B d).map Ob.noH else none:=by
 have h0:∀ (B:Obs)(e:Nat),Obs.get0 (Obs.noH B) e=(Obs.get0 B e).map Ob.noH:=by
  intro B e
  induction B with
  | nil=>rfl
  | cons x B ih =>
   obtain ⟨k,o⟩:=x
   simp only [Obs.noH,Obs.get0]
   cases k==e
   ·exact ih
   ·rfl
 by_cases hd:d < HL
 ·rw [if_pos hd,Obs.get_lo hd,h0,Obs.get0_del,if_neg (by omega),Obs.get_lo hd]
 ·rw [if_neg hd,Obs.get_hi hd,h0,Obs.get0_del,if_pos rfl]
  cases hx:hiOf (Option.map Ob.noH none) d with
  | none=>rfl
  | some o =>
   rcases hiOf_some hx with ⟨_,l,h1,_⟩|⟨i,y,_,h1,_⟩
   ·cases h1
   ·simp [hpsOf] at h1

theorem RS.noH {P:Program}{M M':Nat→Prop} {β:Beta}{B:Obs}(hH:Obs.hasH B=true)(hst:Stable w M w M'){s:SV}{v:Value}(hr:RS P w M β B s v):s.hasHp=false→RS P w M' β (Obs.noH (Obs.del HL B)) s v:=by
 have hasH_get:∀ {l:List SV},SV.hasHps l=false→∀ (i:Nat)(s:SV),l[i]?=some s→s.hasHp=false:=by
  intro l
  induction l with
  | nil=>intro _ i s h;simp at h
  | cons x l ih =>
   intro h i s hi
   simp only [SV.hasHps,Bool.or_eq_false_iff] at h
   cases i with
   | zero =>
    replace hi:x=s:=by simpa using hi
    subst hi;exact h.1
   | succ i=>exact ih h.2 i s (by simpa using hi)
 have hget:∀ {d:Nat}{o:Ob},d < HL→Obs.get B d=some o→Obs.get (Obs.noH (Obs.del HL B)) d=some o.noH:=by
  intro d o hd ho
  rw [noH_get hH,if_pos hd,ho];rfl
 have hoff:∀ {o:Ob}{q:List Stp}{off:Nat},offO P o q=some off→offO P o.noH q=some off:=by
  intro o q off h
  cases o with
  | box t s=>rw [Ob.noH_box];exact h
  | hvar t p=>cases h
  | hrow t p=>cases h
  | _=>exact h
 induction hr with
 | int a=>exact fun _=>.int a
 | bool=>exact fun _=>.bool
 | str a=>exact fun _=>.str a
 | flt a=>exact fun _=>.flt a
 | val a b=>exact fun _=>.val a (b.mono hst)
 | agg a b c d e f _ ih=>exact fun h=>.agg a b c d e f (fun i s hs=>ih i s hs (hasH_get h i s hs))
 | fro a b c=>exact fun _=>.fro a (b.mono hst) (c.mono hst)
 | ptr a b c=>exact fun _=>.ptr (hget (off_low a c) a) b (hoff c)
 | own a b c d=>exact fun _=>.own a (hget (row_low b) b) c d
 | ownNil a b c=>exact fun _=>.ownNil a (hget (row_low b) b) c
 | mp a b c d=>exact fun _=>.mp a (hget d b) c d
 | hval a b=>exact fun h=>by cases h
 | hptr a b=>exact fun h=>by cases h
 | hsub _ a b c d e f=>exact fun h=>by cases h
 | nils=>exact fun _=>.nils
 | nilp=>exact fun _=>.nilp
 | nili=>exact fun _=>.nili
 | fn a b _ ih=>exact fun h=>.fn a b (fun i s hs=>ih i s hs (hasH_get h i s hs))
 | tup a b _ ih=>exact fun h=>.tup a b (fun i s hs=>ih i s hs (hasH_get h i s hs))
 | undef=>exact fun _=>.undef
 | dead=>exact fun _=>.dead

theorem Rel.noH {P:Program} {β:Beta}{T:List SV}{B:Obs}{vs:List Value}(h:Rel P Mo β T B vs w)(hH:Obs.hasH B=true)(hT:∀ s ∈ T,s.hasHp=false):Rel P Mo β T (Obs.noH (Obs.del HL B)) vs w:=by
 have hg:∀ d o,Obs.get (Obs.noH (Obs.del HL B)) d=some o→d < HL∧∃ o',Obs.get B d=some o'∧o=o'.noH:=by
  intro d o hd
  rw [noH_get hH] at hd
  by_cases hl:d < HL
  ·rw [if_pos hl] at hd
   cases ho:Obs.get B d with
   | none=>rw [ho] at hd;cases hd
   | some o'=>rw [ho] at hd;injection hd with hd;exact ⟨hl,o',rfl,hd.symm⟩
  ·rw [if_neg hl] at hd;cases hd
 have hmut:∀ b,Mut Mo β (Obs.noH (Obs.del HL B)) b→Mut Mo β B b:=by
  rintro b (h|⟨d,o,c,h1,h2⟩)
  ·exact .inl h
  ·obtain ⟨_,o',h3,_⟩:=hg d o h1
   exact .inr ⟨d,o',c,h3,h2⟩
 have hst:Stable w (Mut Mo β B) w (Mut Mo β (Obs.noH (Obs.del HL B))):=fun b hb _=>⟨fun h=>hb (hmut b h),rfl⟩
 refine ⟨h.len,fun i s v hs hv=>(h.slot i s v hs hv).noH hH hst (hT s (List.mem_of_getElem? hs)),fun d o hd=>?_,fun d o d' o' b c c' h1 h2 h3 h4=>?_,fun d o b c h1 h2=>?_,fun d o b c h1 h2=>?_,h.mo,h.gl.mono hst⟩
 ·obtain ⟨hl,o',h1,rfl⟩:=hg d o hd
  have hro:=h.ob d o' h1
  cases o' with
  | box t s =>
   obtain ⟨b,c,cs,v,fr,g1,g2,g3,g4,g5,g6,g7,g8,g9⟩:=hro
   rw [Ob.noH_box]
   cases hs:s.hasHp with
   | true=>exact ⟨b,c,cs,v,fr,g1,g2,g3,g4,g5,g6,.dead,.inr (.inr (.inl rfl)),g9⟩
   | false=>exact ⟨b,c,cs,v,fr,g1,g2,g3,g4,g5,g6,g7.noH hH hst hs,g8,g9⟩
  | row e l =>
   obtain ⟨hz,hr⟩:=hro
   refine ⟨hz,?_⟩
   rcases hr with hr|⟨b,c,cs,fr,g1,g2,g3,g4,g5,g6,g7,g8⟩
   ·exact .inl hr
   ·exact .inr ⟨b,c,cs,fr,g1,g2,g3,g4,g5,g6,g7,fun i p hp=>(g8 i p hp).mono hst⟩
  | map t l =>
   obtain ⟨b,c,k,e',es,clock,g1,g2,g3,g4,g5⟩:=hro
   exact ⟨b,c,k,e',es,clock,g1,g2,g3,g4,fun i x hx=>let ⟨pk,pv,ck,cv,k1,k2,k3,k4,k5⟩:=g5 i x hx;⟨pk,pv,ck,cv,k1,k2,k3.mono hst,k4,k5.mono hst⟩⟩
  | hp l=>exact hro
  | hvar t p =>
   obtain ⟨b,c,cs,fr,g1,g2,g3,g4,g5,g6,g7⟩:=hro
   obtain ⟨v,hv⟩:=g6.pack
   exact ⟨b,c,cs,v,fr,g1,g2,g3,g4,g5,hv,.dead,.inr (.inr (.inl rfl)),g7⟩
  | hrow t p =>
   obtain ⟨hz,b,c,cs,fr,g1,g2,g3,g4,g5,g6,g7,g8⟩:=hro
   exact ⟨hz,.inr ⟨b,c,cs,fr,g1,g2,g3,by simp,g5,g6,g7,fun i p hp=>by simp at hp⟩⟩
 ·obtain ⟨_,x,k1,_⟩:=hg d o h1
  obtain ⟨_,y,k2,_⟩:=hg d' o' h2
  exact h.inj d x d' y b c c' k1 k2 h3 h4
 ·obtain ⟨_,x,k1,_⟩:=hg d o h1
  exact h.lt d x b c k1 h2
 ·obtain ⟨_,x,k1,_⟩:=hg d o h1
  exact h.out d x b c k1 h2

theorem Kp.noH {β:Beta}{B:Obs}(h:Kp w0 F β B w)(hH:Obs.hasH B=true)(hF:∀ i x,¬ F.hp i x):Kp w0 F β (Obs.noH (Obs.del HL B)) w:=by
 have hg:∀ d o,Obs.get (Obs.noH (Obs.del HL B)) d=some o→∃ o',Obs.get B d=some o'∧o=o'.noH:=by
  intro d o hd
  rw [noH_get hH] at hd
  by_cases hl:d < HL
  ·rw [if_pos hl] at hd
   cases ho:Obs.get B d with
   | none=>rw [ho] at hd;cases hd
   | some o'=>rw [ho] at hd;injection hd with hd;exact ⟨o',rfl,hd.symm⟩
  ·rw [if_neg hl] at hd;cases hd
 refine ⟨h.size,h.old,fun b ⟨d,o,c,h1,h2⟩=>?_,h.os,h.output,fun n t b o hn ho=>?_,h.low,fun i x hx=>absurd hx (hF i x)⟩
 ·obtain ⟨o',k1,_⟩:=hg d o h1
  exact h.mine b ⟨d,o',c,k1,h2⟩
 ·obtain ⟨o',k1,rfl⟩:=hg n o ho
  obtain ⟨⟨s,rfl⟩,k2⟩:=h.stay n t b o' hn k1
  rw [Ob.noH_box]
  exact ⟨⟨_,rfl⟩,k2⟩

theorem finish_sound (hL:laidOutB E.P=true){fn:Func}{B0:Obs}{r:Out}(hI:Inv E.P w0 F Mo st a w)(hF:∀ i x,F.hp i x→i < (Obs.hps B0).length)(h:finish E fn B0 st=some r) :
  a.defers=[]∧∃ rvs β',(results fn a.tmps).run E.P w=.ok (retV rvs) w∧Rel E.P Mo β' r.1 r.2 rvs w∧Kp w0 F β' r.2 w:=by
 obtain ⟨hdef,β,hR,hk⟩:=hI
 refine ⟨hdef,?_⟩
 unfold finish at h
 simp only at h
 obtain ⟨hnd,h⟩:=cond_none h
 have hnd':∀ (i:Nat)(rv:ResultVar),fn.results.toList[i]?=some rv→(readRes E st rv).isDead=false:=by
  intro i rv hi
  have:=List.any_eq_false.1 hnd (readRes E st rv) (List.mem_map.2 ⟨rv,List.mem_of_getElem? hi,rfl⟩)
  simpa using this
 have hall:∀ rv:ResultVar,∃ v,(readRes E st rv).isDead=false→(match rv with|.tmp t=>pure (a.tmps.getD t Go.undef)|.cell p t=>do loadVar t (←asAddr (a.tmps.getD p Go.undef)):Sem Value).run E.P w=.ok v w∧RS E.P w (Mut Mo β st.B) β st.B (readRes E st rv) v:=by
  intro rv
  cases hd:(readRes E st rv).isDead with
  | true=>exact ⟨Go.undef,fun h=>by cases h⟩
  | false =>
   obtain ⟨v,hv⟩:=readRes_sound hL hR rv hd
   exact ⟨v,fun _=>hv⟩
 let val:ResultVar→Value:=fun rv=>(hall rv).choose
 have hval:∀ rv,(readRes E st rv).isDead=false→(match rv with|.tmp t=>pure (a.tmps.getD t Go.undef)|.cell p t=>do loadVar t (←asAddr (a.tmps.getD p Go.undef)):Sem Value).run E.P w=.ok (val rv) w∧RS E.P w (Mut Mo β st.B) β st.B (readRes E st rv) (val rv):=fun rv=>(hall rv).choose_spec
 have hrun:(results fn a.tmps).run E.P w=.ok (retV (fn.results.toList.map val)) w:=by
  refine run_results (by simp) (fun i rv v hi hv=>?_)
  rw [List.getElem?_map,hi] at hv
  injection hv with hv;subst hv
  exact (hval rv (hnd' i rv hi)).1
 have hrel:Rel E.P Mo β (fn.results.toList.map (readRes E st)) st.B (fn.results.toList.map val) w:=by
  refine hR.slots (by simp) (fun i s v hs hv=>?_)
  rw [List.getElem?_map] at hs hv
  cases hi:fn.results.toList[i]? with
  | none=>rw [hi] at hs;cases hs
  | some rv =>
   rw [hi] at hs hv
   injection hs with hs;injection hv with hv
   subst hs;subst hv
   exact (hval rv (hnd' i rv hi)).2
 generalize fn.results.toList.map val=rvs at hrun hrel
 generalize fn.results.toList.map (readRes E st)=rs at h hrel
 have hF2:((bif E.ownRet then (match rs with|[.own _ d]=>[d]|_=>[]) else [])++B0.map (·.1)).contains HL=false→∀ i x,¬ F.hp i x:=by
  intro hc i x hx
  have h1:=hF i x hx
  have h2:HL ∉ B0.map (·.1):=by
   intro hm
   rw [List.contains_eq_mem,decide_eq_false_iff_not] at hc
   exact hc (List.mem_append_right _ hm)
  have h3:Obs.get0 B0 HL=none:=by
   cases hg:Obs.get0 B0 HL with
   | none=>rfl
   | some o=>exact absurd (List.mem_map.2 ⟨_,Obs.get0_mem hg,rfl⟩) h2
  unfold Obs.hps at h1
  rw [h3] at h1
  simp [hpsOf] at h1
 generalize (bif E.ownRet then (match rs with|[.own _ d]=>[d]|_=>[]) else [])++B0.map (·.1)=keep at h hF2
 obtain ⟨hR1,hk1⟩:=retireAll_rel (st:={ T:=rs,B:=st.B }) ((st.B.filter fun x=>x.2.isRow&&!keep.contains x.1).map (·.1)) hrel hk
 generalize retireAll ((st.B.filter fun x=>x.2.isRow&&!keep.contains x.1).map (·.1)) { T:=rs,B:=st.B }=st1 at h hR1 hk1
 cases ho:outAll E.P st1.B keep fn.resultTypes.toList st1.T with
 | none=>rw [ho] at h;cases h
 | some l =>
  rw [ho] at h
  injection h with h
  subst h
  obtain ⟨o1,o2⟩:=outAll_spec ho
  have hlabs:∀ d ∈ (st1.B.map (·.1)).filter (fun n=>!keep.contains n),keep.contains d=false:=by
   intro d hd
   have:=(List.mem_filter.1 hd).2
   simpa using this
  generalize hLs:(st1.B.map (·.1)).filter (fun n=>!keep.contains n)=Ls at hlabs
  have dropR:Rel E.P Mo β l (retireAll Ls { T:=[],B:=st1.B }).B rvs w∧(keep.contains HL=true∨∀ s ∈ l,s.hasHp=false)→Rel E.P Mo β l (dropH keep (retireAll Ls { T:=[],B:=st1.B }).B) rvs w:=by
   rintro ⟨h1,h2⟩
   unfold dropH
   cases hc:keep.contains HL with
   | true=>exact h1
   | false =>
    cases hh:Obs.hasH (retireAll Ls { T:=[],B:=st1.B }).B with
    | false=>exact h1
    | true=>exact h1.noH hh (h2.resolve_left (by rw [hc];simp))
  have dropK:Kp w0 F β (retireAll Ls { T:=[],B:=st1.B }).B w→Kp w0 F β (dropH keep (retireAll Ls { T:=[],B:=st1.B }).B) w:=by
   intro h1
   unfold dropH
   cases hc:keep.contains HL with
   | true=>exact h1
   | false =>
    cases hh:Obs.hasH (retireAll Ls { T:=[],B:=st1.B }).B with
    | false=>exact h1
    | true=>exact h1.noH hh (hF2 hc)
  have noheap:keep.contains HL=true∨∀ s ∈ l,s.hasHp=false:=by
   cases hc:keep.contains HL with
   | true=>exact .inl rfl
   | false =>
    refine .inr fun s' hs'=>?_
    obtain ⟨i,hi⟩:=List.getElem?_of_mem hs'
    have hil:i < st1.T.length:=by rw [←o1];exact get_lt hi
    obtain ⟨t,ht⟩:=o2 i _ s' (List.getElem?_eq_getElem hil) hi
    generalize st1.T[i]=s at ht
    have plain:∀ {s:SV},(s.pvT E.P t).map (ofPV E.P t)=some s'→s'.hasHp=false:=by
     intro s hp
     cases hq:s.pvT E.P t with
     | none=>rw [hq] at hp;cases hp
     | some p=>rw [hq] at hp;injection hp with hp;subst hp;exact hasHp_ofPV
    cases s with
    | own u d =>
     simp only [outS] at ht
     obtain ⟨_,ht⟩:=cond_some ht
     injection ht with ht;subst ht;rfl
    | agg u l' =>
     simp only [outS] at ht
     cases hb:boxPV E.P t (.agg u l') with
     | none=>rw [hb] at ht;cases ht
     | some p=>rw [hb] at ht;injection ht with ht;subst ht;exact hasHp_ofPV
    | ptr d q =>
     simp only [outS] at ht
     cases hc2:keep.contains d with
     | true=>rw [hc2,cond_true] at ht;injection ht with ht;subst ht;rfl
     | false =>
      rw [hc2,cond_false] at ht
      split at ht
      ·obtain ⟨_,ht⟩:=cond_some ht
       rename_i u s0 e _ _ _ _
       cases hb:boxPV E.P u s0 with
       | none=>rw [hb] at ht;cases ht
       | some p=>rw [hb] at ht;injection ht with ht;subst ht;rfl
      ·cases ht
    | hval u p=>simp only [outS] at ht;rw [hc] at ht;cases ht
    | hptr u i q=>simp only [outS] at ht;rw [hc] at ht;cases ht
    | nilp=>simp only [outS] at ht;rw [hc,Bool.false_and,cond_false] at ht;exact plain ht
    | mp u d=>exact plain (s:=.mp u d) ht
    | hsub u i n a=>exact plain (s:=.hsub u i n a) ht
    | fn f l'=>exact plain (s:=.fn f l') ht
    | tup l'=>exact plain (s:=.tup l') ht
    | undef=>exact plain (s:=.undef) ht
    | dead=>exact plain (s:=.dead) ht
    | _=>exact plain ht
  refine ⟨rvs,β,hrun,dropR ⟨?_,noheap⟩,dropK ?_⟩
  ·have hR2:=(retireAll_rel (w0:=w0) (F:=F) (st:={ T:=[],B:=st1.B }) Ls (hR1.slots (T':=[]) (vs':=[]) rfl (fun i s v hs=>by simp at hs)) hk1).1
   refine hR2.slots (by rw [hR1.len,o1]) (fun i s' v hs hv=>?_)
   have hil:i < st1.T.length:=by rw [←o1];exact get_lt hs
   have hg:=List.getElem?_eq_getElem hil
   obtain ⟨t,ht⟩:=o2 i _ s' hg hs
   have hrs:=hR1.slot i _ v hg hv
   generalize st1.T[i]=s at ht hrs
   have keepS:∀ {s'':SV},s''.kept keep=true→RS E.P w (Mut Mo β st1.B) β st1.B s'' v→RS E.P w (Mut Mo β (retireAll Ls { T:=[],B:=st1.B }).B) β (retireAll Ls { T:=[],B:=st1.B }).B s'' v:=by
    intro s'' hkp hr
    have hR3:=(retireAll_rel (w0:=w0) (F:=F) (st:={ T:=[s''],B:=st1.B }) Ls (hR1.slots (T':=[s'']) (vs':=[v]) rfl (fun i s0 v0 hs0 hv0=>by
     cases i with
     | zero =>
      replace hs0:s''=s0:=by simpa using hs0
      replace hv0:v=v0:=by simpa using hv0
      subst hs0 hv0;exact hr
     | succ i=>simp at hs0)) hk1).1
    rw [retireAll_kept_T (keep:=keep) Ls [s''] st1.B hlabs (fun s hs=>by simp at hs;subst hs;exact hkp)] at hR3
    rw [retireAll_B Ls [s''] [] st1.B] at hR3
    exact hR3.slot 0 s'' v rfl rfl
   have data:∀ {p:PV}{cs:List Value},Pack E.P t v cs→Rd E.P w (Mut Mo β st1.B) t p cs→RS E.P w (Mut Mo β (retireAll Ls { T:=[],B:=st1.B }).B) β (retireAll Ls { T:=[],B:=st1.B }).B (ofPV E.P t p) v :=
    fun h1 h2=>keepS plain_kept (RS.ofPV h1 h2)
   have plain:∀ {s:SV},RS E.P w (Mut Mo β st1.B) β st1.B s v→(s.pvT E.P t).map (ofPV E.P t)=some s'→RS E.P w (Mut Mo β (retireAll Ls { T:=[],B:=st1.B }).B) β (retireAll Ls { T:=[],B:=st1.B }).B s' v:=by
    intro s hr hp
    cases hq:s.pvT E.P t with
    | none=>rw [hq] at hp;cases hp
    | some p =>
     rw [hq] at hp;injection hp with hp;subst hp
     obtain ⟨cs,k1,k2⟩:=hr.pvT hq
     exact data k1 k2
   cases s with
   | hval u p =>
    simp only [outS] at ht
    obtain ⟨hc,ht⟩:=cond_some ht
    injection ht with ht;subst ht
    exact keepS rfl hrs
   | hptr u i q =>
    simp only [outS] at ht
    obtain ⟨hc,ht⟩:=cond_some ht
    obtain ⟨u',p',cs',rfl,g1,g2⟩:=hpOut_rs ht hrs
    exact keepS rfl (.hval g1 g2)
   | nilp =>
    simp only [outS] at ht
    cases hc:(keep.contains HL&&refT E.P t) with
    | false=>rw [hc,cond_false] at ht;exact plain hrs ht
    | true =>
     rw [hc,cond_true] at ht
     rw [Bool.and_eq_true] at hc
     cases hu:E.P.underlying t with
     | none=>rw [hu] at ht;cases ht
     | some dd =>
      rw [hu] at ht
      cases dd with
      | pointer e =>
       injection ht with ht;subst ht
       cases hrs with
       | nilp=>exact keepS rfl (.hval (pack1 (by simp [isAggT,hu])) (.nilp hc.2 hu))
      | _=>cases ht
   | own u d =>
    simp only [outS] at ht
    obtain ⟨hc,ht⟩:=cond_some ht
    injection ht with ht;subst ht
    exact keepS hc hrs
   | agg u l' =>
    simp only [outS] at ht
    cases hb:boxPV E.P t (.agg u l') with
    | none=>rw [hb] at ht;cases ht
    | some p =>
     rw [hb] at ht;injection ht with ht;subst ht
     obtain ⟨cs,k1,k2⟩:=boxPV_sound hrs hb
     exact data k1 k2
   | ptr d q =>
    simp only [outS] at ht
    cases hc:keep.contains d with
    | true =>
     rw [hc,cond_true] at ht
     injection ht with ht;subst ht
     exact keepS hc hrs
    | false =>
     rw [hc,cond_false] at ht
     cases q with
     | cons _ _=>cases ht
     | nil =>
      cases hob:Obs.get st1.B d with
      | none=>rw [hob] at ht;cases ht
      | some ob =>
       rw [hob] at ht
       cases ob with
       | row _ _=>cases ht
       | map _ _=>cases ht
       | hp _=>cases ht
       | hvar _ _=>cases ht
       | hrow _ _=>cases ht
       | box u s0 =>
        cases hu:E.P.underlying t with
        | none=>rw [hu] at ht;cases ht
        | some dd =>
         rw [hu] at ht
         cases dd with
         | pointer e =>
          simp only at ht
          obtain ⟨hue,ht9⟩:=cond_some ht
          clear ht
          have hue:u=e:=by simpa using hue
          subst hue
          cases hb:boxPV E.P u s0 with
          | none=>rw [hb] at ht9;cases ht9
          | some p =>
           rw [hb] at ht9
           injection ht9 with ht9;subst ht9
           obtain ⟨b,c,cs,v0,fr,h1,h2,h3,h4,h5,h6,h7,h8,h9⟩:=hR1.ob d _ hob
           cases hrs with
           | @ptr _ _ b' c' off ob' k1 k2 k3 =>
            rw [hob] at k1;injection k1 with k1;subst k1
            rw [h1] at k2;injection k2 with k2;injection k2 with e1 e2;subst e1;subst e2
            have k3':(0:Nat)=off:=by injection k3
            subst k3'
            obtain ⟨cs',q1,q2⟩:=boxPV_sound h7 hb
            have hcs:cs=cs':=by
             have a1:=h6.cells h5
             have a2:=q1.cells (q2.one hL)
             rw [←a1,←a2]
            subst hcs
            have hnot:¬ Mut Mo β (retireAll Ls { T:=[],B:=st1.B }).B b:=by
             rintro (h|⟨d',o',c',m1,m2⟩)
             ·exact hR1.out d _ b c hob h1 h
             ·obtain ⟨n1,o'',n2⟩:=retireAll_kept Ls m1
              have:=hR1.inj d _ d' o'' b c c' hob n2 h1 m2
              subst this
              have hdl:d < HL:=off_low hob k3
              apply n1 hdl
              rw [←hLs,List.mem_filter]
              exact ⟨List.mem_map.2 ⟨_,Obs.get_mem (Nat.lt_trans hdl HL_HB) n2,rfl⟩,by rw [hc];rfl⟩
            have hst:Stable w (Mut Mo β st1.B) w (Mut Mo β (retireAll Ls { T:=[],B:=st1.B }).B):=by
             intro b2 hb2 _
             refine ⟨fun h=>hb2 ?_,rfl⟩
             rcases h with h|h
             ·exact .inl h
             ·exact .inr (h.sub fun e o he=>(retireAll_kept Ls he).2)
            have ha:isAggT E.P t=false:=by simp [isAggT,hu]
            refine .val (pack1 ha) (.ref hu h4 (fun j x hj=>⟨hnot,?_⟩) (q2.mono hst))
            have hj':(sub cs 0 cs.length)[j]?=some x:=by rw [sub_all rfl];exact hj
            exact cell_block h2 j _ hj'
         | _=>cases ht
   | _=>exact plain hrs ht
  ·exact (retireAll_rel (st:={ T:=[],B:=st1.B }) Ls (hR1.slots (T':=[]) (vs':=[]) rfl (fun i s v hs=>by simp at hs)) hk1).2

end
end Go.X
namespace Go.X
open Go

def EndsIn (P:Program)(w:World)(Mo:Nat→Prop) (β:Beta)(B0:Obs)(r:Out)(e:Ending)(w':World):Prop :=
 ∃ rvs β',e=.returned (retV rvs)∧Rel P Mo β' r.1 r.2 rvs w'∧Kp w (footOf β B0) β' r.2 w'

section
variable {E : Env}

theorem start_inv {P:Program}{Mo:Nat→Prop} {β:Beta}{args:List SV}{B0:Obs}{vs:List Value}{w:World}(h:Rel P Mo β args B0 vs w)(n:Nat) :
  Inv P w (footOf β B0) Mo { T:=args++List.replicate n .undef,B:=B0 } { tmps:=vs.toArray++Array.replicate n Go.undef,defers:=[] } w:=by
 refine ⟨rfl,β,?_,?_⟩
 ·refine ⟨?_,?_,h.ob,h.inj,h.lt,h.out,h.mo,h.gl⟩
  ·simp [h.len]
  ·intro i s v hs hv
   have e:(vs.toArray++Array.replicate n Go.undef).toList=vs++List.replicate n Go.undef:=by simp
   simp only [e] at hv
   simp only at hs
   by_cases hi:i < args.length
   ·rw [List.getElem?_append_left hi] at hs
    rw [List.getElem?_append_left (by rw [h.len];exact hi)] at hv
    exact h.slot i s v hs hv
   ·rw [List.getElem?_append_right (by omega)] at hs
    rw [List.getElem?_append_right (by rw [h.len];omega)] at hv
    have e1:=(List.mem_replicate.1 (List.mem_of_getElem? hs)).2
    have e2:=(List.mem_replicate.1 (List.mem_of_getElem? hv)).2
    subst e1;subst e2
    exact .undef
 ·refine ⟨Nat.le_refl _,fun _ _ _=>rfl,fun b hb=>.inl hb,rfl,rfl,fun k t b o hk ho=>?_,fun k hk=>?_,fun i x hx=>hx⟩
  ·unfold footOf at hk
   simp only at hk
   split at hk
   ·cases hk
   ·simp only at ho
    rw [ho] at hk
    cases o with
    | row _ _=>cases hk
    | map _ _=>cases hk
    | hp _=>cases hk
    | hvar _ _=>cases hk
    | hrow _ _=>cases hk
    | box t' s =>
     cases hb:β k with
     | none=>rw [hb] at hk;cases hk
     | some b' =>
      rw [hb] at hk
      simp only [Option.some.injEq,Prod.mk.injEq] at hk
      obtain ⟨rfl,rfl⟩:=hk
      exact ⟨⟨s,rfl⟩,rfl⟩
  ·unfold footOf
   simp only
   rw [if_pos hk]

theorem startH_get0 {B:Obs}(h:Obs.get0 B HL=none)(d:Nat):Obs.get0 (B++[(HL,.hp [])]) d=if d=HL then some (.hp []) else Obs.get0 B d:=by
 induction B with
 | nil =>
  show (bif HL==d then some (Ob.hp []) else none)=_
  by_cases hd:d=HL
  ·subst hd;rw [beq_self_eq_true,if_pos rfl];rfl
  ·rw [show (HL==d)=false by simpa using Ne.symm hd,if_neg hd];rfl
 | cons x B ih =>
  obtain ⟨k,o⟩:=x
  show (bif k==d then some o else Obs.get0 (B++[(HL,.hp [])]) d)=if d=HL then some (.hp []) else (bif k==d then some o else Obs.get0 B d)
  have hk:k≠HL:=by
   intro hk
   subst hk
   unfold Obs.get0 at h
   rw [beq_self_eq_true] at h;cases h
  have h':Obs.get0 B HL=none:=by
   unfold Obs.get0 at h
   rw [show (k==HL)=false by simpa using hk] at h;exact h
  rw [ih h']
  by_cases hd:d=HL
  ·subst hd
   rw [show (k==HL)=false by simpa using hk,if_pos rfl];rfl
  ·rw [if_neg hd,if_neg hd]

theorem Inv.startH {st:St}{a:Act}{w w0:World}{F:Foot}{Mo:Nat→Prop}(h:Inv E.P w0 F Mo st a w):Inv E.P w0 F Mo { st with B:=startH E st.B } a w:=by
 obtain ⟨hdef,β,hR,hk⟩:=h
 refine ⟨hdef,?_⟩
 unfold X.startH
 cases hc:E.hpNew&&(Obs.get0 st.B HL).isNone with
 | false=>exact ⟨β,hR,hk⟩
 | true =>
  rw [cond_true]
  simp only [Bool.and_eq_true,Option.isNone_iff_eq_none] at hc
  have hn:=hc.2
  have hHB:=HL_HB
  have hh0:Obs.hps st.B=[]:=by unfold Obs.hps;rw [hn];rfl
  have hh1:Obs.hps (st.B++[(HL,.hp [])])=[]:=by unfold Obs.hps;rw [startH_get0 hn,if_pos rfl];rfl
  have hlo:∀ d,d < HL→Obs.get (st.B++[(HL,.hp [])]) d=Obs.get st.B d:=fun d hd=>by rw [Obs.get_lo hd,Obs.get_lo hd,startH_get0 hn,if_neg (by omega)]
  have hhi:∀ d o,Obs.get (st.B++[(HL,.hp [])]) d=some o→d < HL∨(d=HL∧o=.hp []):=by
   intro d o hd
   by_cases hl:d < HL
   ·exact .inl hl
   ·rw [Obs.get_hi hl] at hd
    rcases hiOf_some hd with ⟨h1,l,h2,h3⟩|⟨i,y,_,h2,_⟩
    ·rw [startH_get0 hn,if_pos rfl] at h2
     injection h2 with h2;injection h2 with h2;subst h2
     exact .inr ⟨h1,h3⟩
    ·have:hpsOf (Obs.get0 (st.B++[(HL,.hp [])]) HL)=[]:=hh1
     rw [this] at h2;simp at h2
  have hlow:∀ d o,Obs.get st.B d=some o→d < HL:=by
   intro d o hd
   by_cases hl:d < HL
   ·exact hl
   ·rw [Obs.get_hi hl] at hd
    rcases hiOf_some hd with ⟨h1,l,h2,h3⟩|⟨i,y,_,h2,_⟩
    ·rw [hn] at h2;cases h2
    ·have:hpsOf (Obs.get0 st.B HL)=[]:=hh0
     rw [this] at h2;simp at h2
  have hat:∀ d,d < HL→β.at HL none d=β d:=fun d hd=>by unfold Beta.at;rw [if_neg (by omega)]
  have hmut:∀ b,Mut Mo (β.at HL none) (st.B++[(HL,.hp [])]) b→Mut Mo β st.B b:=by
   rintro b (h|⟨d,o,c,h1,h2⟩)
   ·exact .inl h
   ·rcases hhi d o h1 with h3|⟨h3,_⟩
    ·rw [hat d h3] at h2
     rw [hlo d h3] at h1
     exact .inr ⟨d,o,c,h1,h2⟩
    ·subst h3;rw [at_self] at h2;cases h2
  have hs:Same E.P w (Mut Mo β st.B) β st.B w (Mut Mo (β.at HL none) (st.B++[(HL,.hp [])])) (β.at HL none) (st.B++[(HL,.hp [])]) :=
   ⟨fun b hb _=>⟨fun h=>hb (hmut b h),rfl⟩,fun d ob _ hd=>⟨ob,by rw [hlo d (hlow d ob hd)];exact hd,hat d (hlow d ob hd),fun q off h=>h,fun e l h=>⟨l,h,rfl⟩⟩,fun i x hx=>by have:=hx.1;rw [hh0] at this;simp at this⟩
  refine ⟨β.at HL none,⟨hR.len,fun i s v hs1 hv=>(hR.slot i s v hs1 hv).mono hs,fun d o hd=>?_,fun d o d' o' b c c' h1 h2 h3 h4=>?_,fun d o b c h1 h2=>?_,fun d o b c h1 h2=>?_,hR.mo,hR.gl.mono hs.st⟩,⟨hk.size,hk.old,fun b hb=>?_,hk.os,hk.output,fun n t b o hn2 ho=>?_,hk.low,fun i x hx=>?_⟩⟩
  ·rcases hhi d o hd with h1|⟨h1,h2⟩
   ·rw [hlo d h1] at hd
    exact (hR.ob d o hd).mono hs hd (fun _ _ _=>rfl)
   ·subst h1;subst h2;exact at_self _ _ _
  ·rcases hhi d o h1 with g1|⟨g1,_⟩
   ·rcases hhi d' o' h2 with g2|⟨g2,_⟩
    ·rw [hat d g1] at h3;rw [hat d' g2] at h4
     rw [hlo d g1] at h1;rw [hlo d' g2] at h2
     exact hR.inj d o d' o' b c c' h1 h2 h3 h4
    ·subst g2;rw [at_self] at h4;cases h4
   ·subst g1;rw [at_self] at h3;cases h3
  ·rcases hhi d o h1 with g1|⟨g1,_⟩
   ·rw [hat d g1] at h2;rw [hlo d g1] at h1;exact hR.lt d o b c h1 h2
   ·subst g1;rw [at_self] at h2;cases h2
  ·rcases hhi d o h1 with g1|⟨g1,_⟩
   ·rw [hat d g1] at h2;rw [hlo d g1] at h1;exact hR.out d o b c h1 h2
   ·subst g1;rw [at_self] at h2;cases h2
  ·obtain ⟨d,o,c,h1,h2⟩:=hb
   rcases hhi d o h1 with g1|⟨g1,_⟩
   ·rw [hat d g1] at h2;rw [hlo d g1] at h1;exact hk.mine b ⟨d,o,c,h1,h2⟩
   ·subst g1;rw [at_self] at h2;cases h2
  ·have hnl:n < HL:=by
    rcases Nat.lt_or_ge n HL with h|h
    ·exact h
    ·rw [hk.low n (.inr h)] at hn2;cases hn2
   rw [hlo n hnl] at ho
   obtain ⟨g1,g2⟩:=hk.stay n t b o hn2 ho
   exact ⟨g1,(hat n hnl).trans g2⟩
  ·have:=(hk.hpk i x hx).1
   rw [hh0] at this;simp at this

theorem run1_sound (hL:laidOutB E.P=true)(hC:OracleOk E.P E.C){f:FuncId}{args:List SV}{B0:Obs}{r:Out}(hD:∀ fn c,E.P.funcs[f]?=some fn→fn.body=some c→DrawsOk E c)(h:run1 E f args B0=some r) :
  ∃ fn c,E.P.funcs[f]?=some fn∧fn.body=some c∧∀ (Mo:Nat→Prop) (β:Beta)(vs:List Value)(w:World),Rel E.P Mo β args B0 vs w→Calls E.P f vs.toArray w (EndsIn E.P w Mo β B0 r):=by
 unfold run1 at h
 cases hf:E.P.funcs[f]? with
 | none=>rw [hf] at h;cases h
 | some fn =>
  rw [hf] at h
  simp only at h
  cases hb:fn.body with
  | none=>rw [hb] at h;cases h
  | some c =>
   rw [hb] at h
   simp only at h
   refine ⟨fn,c,rfl,hb,fun Mo β vs w hR=>?_⟩
   apply calls_of_wp hf hb
   have hlen:vs.toArray.size=args.length:=by simp [hR.len]
   rw [hlen]
   have hI:=(start_inv hR (fn.ntmps - args.length)).startH (E:=E)
   refine wp_mono (exec_sound hL hC c _ (hD fn c hf hb) hI h) fun e a w' hq=>?_
   cases e with
   | normal =>
    obtain ⟨st,h1,h2⟩:=hq
    obtain ⟨g1,rvs,β',g2,g3,g4⟩:=finish_sound hL h1 (fun i x hx=>hx.1) h2
    exact ⟨g1,_,g2,rvs,β',rfl,g3,g4⟩
   | ret =>
    obtain ⟨st,h1,h2⟩:=hq
    obtain ⟨g1,rvs,β',g2,g3,g4⟩:=finish_sound hL h1 (fun i x hx=>hx.1) h2
    exact ⟨g1,_,g2,rvs,β',rfl,g3,g4⟩
   | exit id =>
    obtain ⟨st,h1,h2⟩:=hq
    cases h2
   | goto l=>exact hq.elim
   | panic ch=>exact hq.elim
   | outgrown=>exact hq.elim

def noNum (P:Program):Bool:=P.funcs.all fun fn=>!(fn.name== "runtime.NumGoroutine")

theorem run_enter {P:Program}{f:FuncId}{fn:Func}{c:Code}(hf:P.funcs[f]?=some fn)(hname:(fn.name== "runtime.NumGoroutine")=false)(hb:fn.body=some c)(args:Array Value)(w:World) :
  (callFunc f args).run P w=.ok (.enter f args) w:=by
 have h1:fn.name≠ "runtime.NumGoroutine":=by simpa using hname
 simp [callFunc,hf,h1,hb]

theorem callOk_of {P:Program}(hN:noNum P=true){f:FuncId}{fn:Func}{c:Code}(hf:P.funcs[f]?=some fn)(hb:fn.body=some c){args:List SV}{B0:Obs}{r:Out}
  (h:∀ (Mo:Nat→Prop) (β:Beta)(vs:List Value)(w:World),Rel P Mo β args B0 vs w→Calls P f vs.toArray w (EndsIn P w Mo β B0 r)):CallOk P f args B0 r:=by
 intro Mo β vs w hR o a next Q hn
 have hname:(fn.name== "runtime.NumGoroutine")=false:=by
  unfold noNum at hN
  have:=Array.all_eq_true_iff_forall_mem.1 hN fn (Array.mem_of_getElem? hf)
  simpa using this
 rw [run_enter hf hname hb,Oper.upon_enter]
 refine Calls.mono (h Mo β vs w hR) fun e w' he=>?_
 obtain ⟨rvs,β',rfl,h1,h2⟩:=he
 exact hn rvs w' β' h1 h2

def CodeOk (P:Program)(c:Code):Prop:=∀ E:Env,E.P=P→OracleOk E.P E.C→DrawsOk E c

structure Fine (P:Program)(cfg:Cfg):Prop where
 lay:laidOutB P=true
 num:noNum P=true
 draws:∀ f fn c,cfg.okF f=true→P.funcs[f]?=some fn→fn.body=some c→CodeOk P c
 ext:∀ f s args B r,cfg.ext f=some s→s args B=some r→CallOk P f args B r

theorem callOk_run {P:Program}{E:Env}(hE:E.P=P)(hL:laidOutB P=true)(hN:noNum P=true)(hC:OracleOk P E.C){f:FuncId}{args:List SV}{B0:Obs}{r:Out}
  (hD:∀ fn c,P.funcs[f]?=some fn→fn.body=some c→DrawsOk E c)(h:run1 E f args B0=some r):CallOk P f args B0 r:=by
 subst hE
 obtain ⟨fn,c,hf,hb,hc⟩:=run1_sound hL hC hD h
 exact callOk_of hN hf hb hc

def evC (P:Program)(cfg:Cfg)(k:Nat):FuncId→List SV→Obs→(Out→Option Out)→Option Out:=fun f l B K=>(ev P cfg k f l B).bind K

end
end Go.X
