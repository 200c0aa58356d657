/- The interpreter X: texts 38 to 41; no statement of the seat is proved here. -/
import Derived.Test.YtmdlhnojpcnnbaaXF
import Derived.ProofKit
set_option linter.unusedVariables false
set_option linter.unusedSimpArgs false
namespace Go.X
open Go
section
variable {E : Env} {w0 : World} {F : Foot} {Mo : Nat → Prop}

structure Drawn (ops:Array Oper):Prop where
 nosel:Region.noSelect ops=true
 lt:∀ (j:Nat)(o:Oper),ops[j]?=some o→∀ e ∈ o.after,Region.binds .any e=true→e.on < j
 ap:∀ (i j:Nat)(x y:Oper),i < j→ops[i]?=some x→ops[j]?=some y→skipOp ops x=false→skipOp ops y=false→Bef ops j i∨x.apart ops y=true
 head:∀ (j:Nat),j < nHead ops→lateAt ops j=true∧tailAt ops j=false∧∀ i,j < i→i < ops.size→Bef ops i j
 kinds:∀ (j:Nat),nHead ops≤j→j < ops.size→lateAt ops j=true→tailAt ops j=true
 tails:TailsAll ops ((List.range ops.size).filter fun k=>tailAt ops k)
 ahead:∀ (j:Nat)(o:Oper),ops[j]?=some o→skipOp ops o=false→∀ e ∈ o.after,Region.binds .any e=true→e.on < nHead ops∨lateAt ops e.on=false
 free:∀ j,j < ops.size→lateAt ops j=false→(∀ i,i < ops.size→tailAt ops i=true→Bef ops i j)∨(freeP ops j=true∧heldFree ops j=true)∨heldAt ops j=true
 nd:(ops.toList.filterMap (dstA ops)).Nodup
 fresh:∀ (j:Nat)(o:Oper),ops[j]?=some o→skipOp ops o=false→∀ t d z,o.op=.store t (.tmp d) z→o.dst=none∧∀ (k:Nat)(y:Oper),ops[k]?=some y→k≠j→d ∉ y.looksAt ops
 lin:∀ (j:Nat)(o:Oper)(d:Nat),ops[j]?=some o→linOf ops o=some d→∀ (k:Nat)(y:Oper),ops[k]?=some y→k≠j→d ∉ y.looksAt ops
 lo:∀ (j:Nat)(o:Oper),ops[j]?=some o→skipOp ops o=false→o.dst.getD 0 < lowB∧(laysOp o=true→∃ d,o.dst=some d)

theorem lateAt_of {ops:Array Oper}{j:Nat}{o:Oper}(h:ops[j]?=some o):lateAt ops j=skipOp ops o:=by
 unfold lateAt;rw [h]
theorem tailAt_of {ops:Array Oper}{j:Nat}{o:Oper}(h:ops[j]?=some o):tailAt ops j=(tailOp ops o&&!headOp ops o):=by
 unfold tailAt;rw [h]
theorem tailAt_late {ops:Array Oper}{j:Nat}(h:lateAt ops j=false):tailAt ops j=false:=by
 unfold lateAt at h
 unfold tailAt
 cases hj:ops[j]? with
 | none=>rfl
 | some o =>
  rw [hj] at h
  have h:(tailOp ops o || headOp ops o)=false:=h
  rw [Bool.or_eq_false_iff] at h
  simp [h.1]
theorem dstA_of {ops:Array Oper}{o:Oper}(h:skipOp ops o=false):dstA ops o=o.dst:=by unfold dstA;rw [h];rfl
theorem dstA_some {ops:Array Oper}{o:Oper}{d:Nat}(h:dstA ops o=some d):skipOp ops o=false∧o.dst=some d:=by
 unfold dstA at h
 cases hl:skipOp ops o with
 | true=>rw [hl] at h;cases h
 | false=>rw [hl] at h;exact ⟨rfl,h⟩

theorem drawn_of {ops:Array Oper}(h:dOk ops=true):Drawn ops:=by
 unfold dOk at h
 simp only [Bool.and_eq_true,List.all_eq_true,List.mem_range] at h
 obtain ⟨⟨⟨⟨⟨⟨⟨⟨⟨⟨h0,h1⟩,h2⟩,h3⟩,hk⟩,hT⟩,h4⟩,h7⟩,h8⟩,h5⟩,h6⟩:=h
 refine ⟨h0,fun j o ho e he hb=>?_,fun i j x y hij hx hy hlx hly=>?_,fun j hj=>?_,fun j hm hj hl=>?_,tailsAll_spec _ hT,fun j o ho hl e he hb=>?_,fun j hj hl=>?_,nodupB_iff h5,fun j o ho hl t d z hop=>?_,fun j o d ho hl k y hy hkj hd=>?_,fun j o ho hl=>?_⟩
 ·have:=h1 j (Array.getElem?_eq_some_iff.1 ho).1
  rw [ho] at this
  simp only [List.all_eq_true,Bool.or_eq_true,Bool.not_eq_true'] at this
  rcases this e (by simpa using he) with h|h
  ·rw [hb] at h;cases h
  ·simpa using h
 ·have:=h2 j (Array.getElem?_eq_some_iff.1 hy).1
  rw [lateAt_of hy,hly] at this
  simp only [Bool.false_or,Bool.or_eq_true,List.all_eq_true,List.mem_range,Bool.false_eq_true,false_or] at this
  have:=this i hij
  rw [lateAt_of hx,hlx,hx,hy] at this
  rcases this with (h|h)|h
  ·cases h
  ·exact .inl (before_spec ops h)
  ·exact .inr h
 ·have hjs:j < ops.size:=by
   have hle:nHead ops≤ops.toList.length:=by
    unfold nHead
    have:=(List.dropWhile_sublist (l:=ops.toList.reverse) (fun o=>!cloOp o)).length_le
    simpa using this
   rw [Array.length_toList] at hle
   omega
  have:=h3 j hjs
  simp only [Bool.or_eq_true,Bool.and_eq_true,Bool.not_eq_true',List.all_eq_true,List.mem_range] at this
  rcases this with h|⟨⟨q1,q2⟩,q3⟩
  ·have h:nHead ops≤j:=by simpa using h
   omega
  ·refine ⟨q1,q2,fun i hji hi=>?_⟩
   rcases q3 i hi with h|h
   ·have h:i≤j:=by simpa using h
    omega
   ·exact before_spec ops h
 ·have:=hk j hj
  rw [hl] at this
  simp only [Bool.or_eq_true,Bool.not_true,Bool.false_eq_true,or_false] at this
  rcases this with h|h
  ·have h:j < nHead ops:=by simpa using h
   omega
  ·exact h
 ·have:=h4 j (Array.getElem?_eq_some_iff.1 ho).1
  rw [lateAt_of ho,hl,ho] at this
  simp only [Bool.false_or,Option.map_some,Option.getD_some,Bool.and_eq_true,List.all_eq_true,Bool.or_eq_true,Bool.not_eq_true',Bool.false_eq_true,false_or] at this
  rcases this.1 e (by simpa using he) with h|h|h
  ·rw [hb] at h;cases h
  ·exact .inl (by simpa using h)
  ·exact .inr h
 ·have:=h4 j hj
  rw [hl] at this
  simp only [Bool.false_or,Bool.and_eq_true,Bool.or_eq_true,Bool.false_eq_true,false_or] at this
  rcases this.2 with (h|h)|h
  ·refine .inl fun i hi hli=>?_
   unfold fastB at h
   rw [List.all_eq_true] at h
   have:=h i (List.mem_range.2 hi)
   rw [hli] at this
   exact before_spec ops (by simpa using this)
  ·exact .inr (.inl h)
  ·exact .inr (.inr h)
 ·have:=h7 j (Array.getElem?_eq_some_iff.1 ho).1
  rw [lateAt_of ho,hl] at this
  simp only [Bool.false_or,Bool.or_eq_true,Bool.false_eq_true,false_or] at this
  unfold freshOk at this
  rw [ho] at this
  simp only [hop,Bool.and_eq_true,Option.isNone_iff_eq_none,List.all_eq_true,List.mem_range,Bool.or_eq_true,beq_iff_eq] at this
  refine ⟨this.1,fun k y hy hkj hd=>?_⟩
  rcases this.2 k (Array.getElem?_eq_some_iff.1 hy).1 with h|h
  ·exact hkj h
  ·rw [hy] at h
   simp at h
   exact h hd
 ·have:=h8 j (Array.getElem?_eq_some_iff.1 ho).1
  unfold linOk at this
  rw [ho] at this
  simp only [hl,List.all_eq_true,List.mem_range,Bool.or_eq_true,beq_iff_eq] at this
  rcases this k (Array.getElem?_eq_some_iff.1 hy).1 with h|h
  ·exact hkj h
  ·rw [hy] at h
   simp at h
   exact h hd
 ·have:=h6 o (by simpa using Array.mem_of_getElem? ho)
  rw [hl] at this
  simp only [Bool.false_or,Bool.and_eq_true,Bool.or_eq_true,Bool.not_eq_true',Bool.false_eq_true,false_or] at this
  refine ⟨by simpa using this.1,fun hl=>?_⟩
  rcases this.2 with h|h
  ·rw [hl] at h;cases h
  ·exact Option.isSome_iff_exists.1 h

def Gone (ops:Array Oper)(listed:Array Bool)(d:Nat):Prop:=∃ (j:Nat)(o:Oper),ops[j]?=some o∧linOf ops o=some d∧listed.getD j false=true
structure Clean (ops:Array Oper)(tr:List (SV × Obs))(T0:List SV)(B0:Obs):Prop where
 t0:∀ (j:Nat)(o:Oper)(d:Nat),ops[j]?=some o→linOf ops o=some d→∀ (i:Nat)(s:SV),T0[i]?=some s→s.has d=false
 t:∀ (j:Nat)(o:Oper)(d:Nat),ops[j]?=some o→linOf ops o=some d→∀ (k:Nat)(y:Oper)(x:SV × Obs)(i:Nat),ops.toList[k]?=some y→tr[k]?=some x→dstA ops y=some i→i < T0.length→i≠d→x.1.has d=false
 b0:∀ (j:Nat)(o:Oper)(d:Nat),ops[j]?=some o→linOf ops o=some d→∀ (e:Nat)(ob:Ob),Obs.get B0 e=some ob→ob.has d=false
 b:∀ (j:Nat)(o:Oper)(d:Nat),ops[j]?=some o→linOf ops o=some d→∀ (k:Nat)(x:SV × Obs)(e:Nat)(ob:Ob),tr[k]?=some x→(e,ob) ∈ x.2→ob.has d=false
def HH (tr:List (SV × Obs))(B0:Obs)(listed:Array Bool)(B:Obs):Prop :=
 Obs.hasH B=Obs.hasH B0∧((Obs.hps B=Obs.hps B0∧∀ (k:Nat)(x:SV × Obs) ob,tr[k]?=some x→listed.getD k false=true→(HL,ob) ∉ x.2) ∨
  ∃ (k:Nat)(x:SV × Obs)(ob:Ob),tr[k]?=some x∧listed.getD k false=true∧x.2=[(HL,ob)]∧Obs.hps B=Obs.hps B0++[ob.he])
theorem HH.keep {tr:List (SV × Obs)}{B0 B B':Obs}{listed:Array Bool}(h:HH tr B0 listed B){j:Nat}(hj:j < listed.size){x:SV × Obs}(hx:tr[j]?=some x)(hno:∀ ob,(HL,ob) ∉ x.2)(hp:Obs.hps B'=Obs.hps B)(hh:Obs.hasH B'=Obs.hasH B) :
  HH tr B0 (listed.setIfInBounds j true) B':=by
 refine ⟨hh.trans h.1,?_⟩
 rcases h.2 with ⟨h1,h2⟩|⟨k,y,ob,h1,h2,h3,h4⟩
 ·refine .inl ⟨hp.trans h1,fun k y ob hk hl=>?_⟩
  rw [getD_set _ _ _ _ hj] at hl
  by_cases hjk:j=k
  ·subst hjk
   rw [hx] at hk;injection hk with hk;subst hk
   exact hno ob
  ·rw [if_neg hjk] at hl
   exact h2 k y ob hk hl
 ·refine .inr ⟨k,y,ob,h1,?_,h3,hp.trans h4⟩
  rw [getD_set _ _ _ _ hj]
  split
  ·rfl
  ·exact h2
theorem hasH_ins {d:Nat}(hd:d < HL)(o:Ob)(B:Obs):Obs.hasH (Obs.ins d o B)=Obs.hasH B:=by
 unfold Obs.hasH;rw [Obs.get0_ins,if_neg (by omega)]
theorem hasH_del {d:Nat}(hd:d < HL)(B:Obs):Obs.hasH (Obs.del d B)=Obs.hasH B:=by
 unfold Obs.hasH;rw [Obs.get0_del,if_neg (by omega)]
theorem hasH_drop (d:Nat)(p:PV)(B:Obs):Obs.hasH (Obs.drop d p B)=Obs.hasH B:=by
 unfold Obs.hasH
 rw [Obs.get0_drop]
 cases Obs.get0 B HL with
 | none=>rfl
 | some o=>cases o <;> rfl
theorem hasH_setH (l:List HE)(B:Obs):Obs.hasH (Obs.setH l B)=Obs.hasH B∨Obs.hasH (Obs.setH l B)=true:=by
 cases h:Obs.hasH (Obs.setH l B) with
 | true=>exact .inr rfl
 | false =>
  left
  cases h2:Obs.hasH B with
  | false=>rfl
  | true =>
   unfold Obs.hasH at h
   rw [Obs.get0_setH,if_pos rfl,hp_get h2] at h
   cases h
theorem heap_pref {B B0:Obs}(h1:∀ d x,d < HL→Obs.get B0 d=some x→Obs.get B d=some x){l:List HE}(h2:Obs.hps B=Obs.hps B0++l):∀ d x,d≠HL→Obs.get B0 d=some x→Obs.get B d=some x:=by
 intro d x hd hx
 by_cases hl:d < HL
 ·exact h1 d x hl hx
 ·have hx':=hx
  rw [Obs.get_hi hl] at hx'
  rcases hiOf_some hx' with ⟨h,_⟩|⟨i,y,rfl,h3,h4⟩
  ·exact absurd h hd
  ·rw [get_heap] at hx ⊢
   rw [h2,List.getElem?_append_left (get_lt (show (Obs.hps B0)[i]?=some y from h3))]
   exact hx
structure DI (E:Env)(w0:World)(F:Foot)(Mo:Nat→Prop)(ops:Array Oper)(tr:List (SV × Obs))(T0:List SV)(B0:Obs)(listed:Array Bool)(a:Act)(w:World):Prop where
 closed:Closed ops listed
 size:listed.size=ops.size
 onlyA:∀ j,tailAt ops j=true→listed.getD j false=false
 heads:∀ j,j < nHead ops→listed.getD j false=true
 defers:a.defers=[]
 ex:∃ T B β,T.length=T0.length∧(∀ i,(∀ (k:Nat)(o:Oper),ops.toList[k]?=some o→listed.getD k false=true→dstA ops o≠some i)→T[i]?=T0[i]?) ∧
  (∀ (k:Nat)(o:Oper)(x:SV × Obs)(i:Nat),ops.toList[k]?=some o→tr[k]?=some x→listed.getD k false=true→dstA ops o=some i→i < T0.length→¬ Gone ops listed i→T[i]?=some x.1) ∧
  (∀ d x,d < HL→Obs.get B0 d=some x→Obs.get B d=some x)∧(∀ (k:Nat)(x:SV × Obs) d ob,d < HL→tr[k]?=some x→listed.getD k false=true→(d,ob) ∈ x.2→¬ Gone ops listed d→(∀ (k':Nat)(x':SV × Obs),k < k'→tr[k']?=some x'→listed.getD k' false=true→∀ ob',(d,ob') ∉ x'.2)→Obs.get B d=some ob) ∧
  (∀ d ob,d < HL→Obs.get B d=some ob→Obs.get B0 d=some ob∨∃ (k:Nat)(x:SV × Obs),tr[k]?=some x∧listed.getD k false=true∧(d,ob) ∈ x.2∧¬ Gone ops listed d) ∧
  HH tr B0 listed B ∧
  Rel E.P Mo β T B a.tmps.toList w∧Kp w0 F β B w

theorem lin_tail {ops:Array Oper}{o:Oper}{d:Nat}(h:linOf ops o=some d):skipOp ops o=false∧o.guard=none∧(∃ s t,o.op=.convert s t (.tmp d)):=by
 unfold linOf at h
 split at h
 ·rename_i s t a hop
  obtain ⟨hc,h⟩:=cond_some h
  injection h with h;subst h
  simp only [Bool.and_eq_true,Bool.not_eq_true',Option.isNone_iff_eq_none] at hc
  exact ⟨hc.2,hc.1.1.2,s,t,hop⟩
 ·cases h
mutual
theorem SV.drop_id (d:Nat)(p:PV):∀ s:SV,s.has d=false→s.drop d p=s
 | .own t e,h=>by
  have h:(e==d)=false:=h
  show (bif e==d then SV.val t p else .own t e)=_
  rw [h];rfl
 | .mp t e,h=>by
  have h:(e==d)=false:=h
  show (bif e==d then SV.dead else .mp t e)=_
  rw [h];rfl
 | .ptr e q,h=>by
  have h:(e==d)=false:=h
  show (bif e==d then SV.dead else .ptr e q)=_
  rw [h];rfl
 | .agg t l,h=>by show SV.agg t (SV.drops d p l)=_;rw [SV.drops_id d p l h]
 | .fn f l,h=>by show SV.fn f (SV.drops d p l)=_;rw [SV.drops_id d p l h]
 | .tup l,h=>by show SV.tup (SV.drops d p l)=_;rw [SV.drops_id d p l h]
 | .int _ _,_=>rfl
 | .bool _,_=>rfl
 | .str _,_=>rfl
 | .flt _ _,_=>rfl
 | .val _ _,_=>rfl
 | .fro _ _,_=>rfl
 | .hval _ _,_=>rfl
 | .hptr _ _ _,_=>rfl
 | .hsub _ _ _ _,_=>rfl
 | .nils,_=>rfl
 | .nilp,_=>rfl
 | .nili,_=>rfl
 | .undef,_=>rfl
 | .dead,_=>rfl
theorem SV.drops_id (d:Nat)(p:PV):∀ l:List SV,SV.hass d l=false→SV.drops d p l=l
 | [],_=>rfl
 | s :: l,h=>by
  have h:(s.has d || SV.hass d l)=false:=h
  rw [Bool.or_eq_false_iff] at h
  show SV.drop d p s :: SV.drops d p l=_
  rw [SV.drop_id d p s h.1,SV.drops_id d p l h.2]
end
theorem drops_get (d:Nat)(p:PV):∀ (T:List SV)(i:Nat),(SV.drops d p T)[i]?=(T[i]?).map (SV.drop d p)
 | [],_=>rfl
 | s :: T,0=>rfl
 | s :: T,i+1=>by
  show (SV.drop d p s :: SV.drops d p T)[i+1]?=_
  rw [List.getElem?_cons_succ,List.getElem?_cons_succ];exact drops_get d p T i
theorem drops_len (d:Nat)(p:PV):∀ (T:List SV),(SV.drops d p T).length=T.length
 | []=>rfl
 | s :: T=>by show (SV.drop d p s :: SV.drops d p T).length=_;simp [drops_len d p T]
theorem Ob.drop_id (d:Nat)(p:PV){ob:Ob}(h:ob.has d=false):ob.drop d p=ob:=by
 cases ob with
 | box t s=>show Ob.box t (s.drop d p)=_;rw [SV.drop_id d p s h]
 | row e l=>rfl
 | map e l=>rfl
 | hp _=>rfl
 | hvar _ _=>rfl
 | hrow _ _=>rfl
theorem getD_of_get {T T':List SV}{i:Nat}(h:T[i]?=T'[i]?):T.getD i .dead=T'.getD i .dead:=by
 rw [List.getD_eq_getElem?_getD,List.getD_eq_getElem?_getD,h]

theorem looksAt_op {ops:Array Oper}{o:Oper}{i:Nat}(h:Operand.tmp i ∈ o.op.operands):i ∈ o.looksAt ops:=by
 unfold Oper.looksAt
 refine List.mem_append_left _ (List.mem_filterMap.2 ⟨.tmp i,by simpa using h,rfl⟩)
theorem looksAt_guard {ops:Array Oper}{o:Oper}{j:Nat}{want:Bool}{d:Nat}(hg:o.guard=some (j,want))(hd:(ops[j]?).bind (·.dst)=some d):d ∈ o.looksAt ops:=by
 unfold Oper.looksAt
 refine List.mem_append_right _ ?_
 rw [hg]
 simp only [hd]
 simp

theorem convA_congr {o:Oper}{T T':List SV}{B B':Obs}{s:SV}(hs:∀ y ∈ o.op.operands,∀ P t,({ T:=T,B:=B }:St).get P t y=({ T:=T',B:=B' }:St).get P t y)(h:convA E o { T:=T,B:=B }=some s):convA E o { T:=T',B:=B' }=some s:=by
 unfold convA at h ⊢
 cases hop:o.op with
 | convert a b x =>
  rw [hop] at h
  simp only at h ⊢
  rw [←hs x (by rw [hop];simp [Op.operands])]
  exact h
 | _=>rw [hop] at h;cases h

theorem convA_own {o:Oper}{st:St}{u d:Nat}(h:convA E o st=some (.own u d)):∃ y,st.get E.P o.type y=.own u d:=by
 unfold convA at h
 split at h
 ·split at h
  ·rename_i hg _
   obtain ⟨_,h⟩:=cond_some h
   injection h with h
   exact ⟨_,by rw [hg,h]⟩
  ·cases h
 ·cases h

theorem putAt_box {P:Program}{u t:TypeId}{s v:SV}{p:Ob}(h:(Ob.box u s).putAt P t v []=some p):∃ v',p=.box u v':=by
 have h:(match v.pvT P t with|some x=>some (Ob.box u (SV.putL P (ofPV P t x) (some x) u s []))|none=>bif v.isHandle P t || v.isWhole t then some (Ob.box u (SV.putL P v none u s [])) else none)=some p:=h
 cases hv:v.pvT P t with
 | some x=>rw [hv] at h;injection h with h;exact ⟨_,h.symm⟩
 | none =>
  rw [hv] at h
  obtain ⟨_,h⟩:=cond_some h
  injection h with h;exact ⟨_,h.symm⟩
theorem owner {ops:Array Oper}{tr:List (SV × Obs)}(htl:tr.length=ops.size){T0:List SV}{B0:Obs}
  (hY:∀ (j:Nat)(o:Oper)(x:SV × Obs),ops.toList[j]?=some o→tr[j]?=some x→(skipOp ops o=true→x.2=[])∧(skipOp ops o=false→Yield E ops B0 (Laid tr [] j) o (putAll ops ops.toList tr j T0) x))
  {k:Nat}{y:SV × Obs}{d:Nat}{ob:Ob}(hdl:d < HL)(h1:tr[k]?=some y)(h2:(d,ob) ∈ y.2) :
  ∃ ok,ops.toList[k]?=some ok∧skipOp ops ok=false∧y.2=[(d,ob)]∧((ok.dst=some d∧laysOp ok=true)∨∃ t z v s k1 y1,ok.op=.store t (.tmp d) z∧ob=.box t v∧k1 < k∧tr[k1]?=some y1∧(d,Ob.box t s) ∈ y1.2):=by
 have hkl:k < ops.toList.length:=by
  have:=get_lt h1
  rw [Array.length_toList];omega
 have hak:=List.getElem?_eq_getElem hkl
 obtain ⟨y1,y2⟩:=hY k _ y hak h1
 cases hkt:skipOp ops ops.toList[k] with
 | true=>rw [y1 hkt] at h2;simp at h2
 | false =>
  rcases y2 hkt with ⟨_,_,_,_,_,_,he⟩|⟨_,_,_,_,he⟩|⟨_,_,_,_,_,_,_,_,_,he⟩|⟨_,t,d',z,p,s,hop,_,_,hl,hput,he,_⟩
  ·subst he;simp at h2
  ·rcases he with he|⟨d',ob',he,he2,he3,_⟩|⟨ob',he,_⟩
   ·rw [he] at h2;simp at h2
   ·rw [he] at h2
    simp only [List.mem_singleton,Prod.mk.injEq] at h2
    obtain ⟨rfl,rfl⟩:=h2
    exact ⟨_,hak,hkt,he,.inl ⟨he2,he3⟩⟩
   ·rw [he] at h2
    simp only [List.mem_singleton,Prod.mk.injEq] at h2
    omega
  ·subst he;simp at h2
  ·subst he
   simp only [List.mem_singleton,Prod.mk.injEq] at h2
   obtain ⟨rfl,rfl⟩:=h2
   obtain ⟨v,hv⟩:=putAt_box hput
   rcases hl with ⟨k1,y1,h3,h4,h5⟩|hl
   ·exact ⟨_,hak,hkt,rfl,.inr ⟨t,z,v,s,k1,y1,hop,hv,h3,h4,h5⟩⟩
   ·simp at hl
theorem heap_of {ops:Array Oper}{tr:List (SV × Obs)}(htl:tr.length=ops.size){T0:List SV}{B0:Obs}
  (hY:∀ (j:Nat)(o:Oper)(x:SV × Obs),ops.toList[j]?=some o→tr[j]?=some x→(skipOp ops o=true→x.2=[])∧(skipOp ops o=false→Yield E ops B0 (Laid tr [] j) o (putAll ops ops.toList tr j T0) x))
  {k:Nat}{y:SV × Obs}{ob:Ob}(h1:tr[k]?=some y)(h2:(HL,ob) ∈ y.2):y.2=[(HL,ob)]∧(∀ ob',¬ Laid tr [] k HL ob')∧Obs.hasH B0=true:=by
 have hkl:k < ops.toList.length:=by
  have:=get_lt h1
  rw [Array.length_toList];omega
 have hak:=List.getElem?_eq_getElem hkl
 obtain ⟨y1,y2⟩:=hY k _ y hak h1
 have hlow:∀ {d:Nat}{ob':Ob},d < lowB→y.2=[(d,ob')]→False:=by
  intro d ob' hd he
  rw [he] at h2
  simp only [List.mem_singleton,Prod.mk.injEq] at h2
  have:=lowHL hd;omega
 cases hkt:skipOp ops ops.toList[k] with
 | true=>rw [y1 hkt] at h2;simp at h2
 | false =>
  rcases y2 hkt with ⟨_,_,_,_,_,_,he⟩|⟨_,_,_,_,he⟩|⟨_,_,_,_,_,_,_,_,_,he⟩|⟨_,t,d',z,p,s,hop,_,_,hl,hput,he,hdl⟩
  ·subst he;simp at h2
  ·rcases he with he|⟨d',ob',he,he2,he3,hdl⟩|⟨ob',he,hn,hhas⟩
   ·rw [he] at h2;simp at h2
   ·exact (hlow hdl he).elim
   ·rw [he] at h2
    simp only [List.mem_singleton,Prod.mk.injEq] at h2
    obtain ⟨_,rfl⟩:=h2
    exact ⟨he,hn,hhas⟩
  ·subst he;simp at h2
  ·exact (hlow hdl (by rw [he])).elim
theorem heap_one {ops:Array Oper}{tr:List (SV × Obs)}(htl:tr.length=ops.size){T0:List SV}{B0:Obs}
  (hY:∀ (j:Nat)(o:Oper)(x:SV × Obs),ops.toList[j]?=some o→tr[j]?=some x→(skipOp ops o=true→x.2=[])∧(skipOp ops o=false→Yield E ops B0 (Laid tr [] j) o (putAll ops ops.toList tr j T0) x))
  {k k':Nat}{y y':SV × Obs}{ob ob':Ob}(h1:tr[k]?=some y)(h2:(HL,ob) ∈ y.2)(h3:tr[k']?=some y')(h4:(HL,ob') ∈ y'.2):k=k':=by
 rcases Nat.lt_trichotomy k k' with h|h|h
 ·exact absurd (.inl ⟨k,y,h,h1,h2⟩) ((heap_of htl hY h3 h4).2.1 ob)
 ·exact h
 ·exact absurd (.inl ⟨k',y',h,h3,h4⟩) ((heap_of htl hY h1 h2).2.1 ob')
theorem trace_low {ops:Array Oper}{tr:List (SV × Obs)}(htl:tr.length=ops.size){T0:List SV}{B0:Obs}
  (hY:∀ (j:Nat)(o:Oper)(x:SV × Obs),ops.toList[j]?=some o→tr[j]?=some x→(skipOp ops o=true→x.2=[])∧(skipOp ops o=false→Yield E ops B0 (Laid tr [] j) o (putAll ops ops.toList tr j T0) x))
  {k:Nat}{y:SV × Obs}{x:Nat × Ob}(h1:tr[k]?=some y)(h2:x ∈ y.2)(hne:x.1≠HL):x.1 < HL:=by
 have hkl:k < ops.toList.length:=by
  have:=get_lt h1
  rw [Array.length_toList];omega
 have hak:=List.getElem?_eq_getElem hkl
 obtain ⟨y1,y2⟩:=hY k _ y hak h1
 cases hkt:skipOp ops ops.toList[k] with
 | true=>rw [y1 hkt] at h2;simp at h2
 | false =>
  rcases y2 hkt with ⟨_,_,_,_,_,_,he⟩|⟨_,_,_,_,he⟩|⟨_,_,_,_,_,_,_,_,_,he⟩|⟨_,t,d',z,p,s,hop,_,_,hl,hput,he,hdl⟩
  ·subst he;simp at h2
  ·rcases he with he|⟨d',ob',he,he2,he3,hdl⟩|⟨ob',he,hn,hhas⟩
   ·rw [he] at h2;simp at h2
   ·rw [he] at h2
    simp only [List.mem_singleton] at h2
    subst h2;exact lowHL hdl
   ·rw [he] at h2
    simp only [List.mem_singleton] at h2
    subst h2;exact absurd rfl hne
  ·subst he;simp at h2
  ·rw [he] at h2
   simp only [List.mem_singleton] at h2
   subst h2;exact lowHL hdl
theorem get_hi_eq {B B':Obs}(h1:Obs.hasH B=Obs.hasH B')(h2:Obs.hps B=Obs.hps B'){d:Nat}(hd:¬ d < HL):Obs.get B d=Obs.get B' d:=by
 rw [Obs.get_hi hd,Obs.get_hi hd]
 cases h:Obs.hasH B with
 | true =>
  rw [hp_get h,hp_get (by rw [←h1];exact h),h2]
 | false =>
  have no:∀ B:Obs,Obs.hasH B=false→hiOf (Obs.get0 B HL) d=none:=by
   intro B hB
   cases hx:hiOf (Obs.get0 B HL) d with
   | none=>rfl
   | some o =>
    exfalso
    rcases hiOf_some hx with ⟨_,l,g,_⟩|⟨i,y,_,g,_⟩
    ·unfold Obs.hasH at hB;rw [g] at hB;cases hB
    ·unfold hpsOf at g
     split at g
     ·rename_i l hl;unfold Obs.hasH at hB;rw [hl] at hB;cases hB
     ·simp at g
  rw [no B h,no B' (by rw [←h1];exact h)]
theorem store_looks {ops:Array Oper}{o:Oper}{t d:Nat}{z:Operand}(h:o.op=.store t (.tmp d) z):d ∈ o.looksAt ops:=looksAt_op (by rw [h];simp [Op.operands])

theorem opQ_makes {o:Oper}{st:St}{s:SV}{os:Obs}(hp:hpOp E o=true)(hm:o.op.makes=true)(h:opQ E o st pairK=some ([s],os)):∃ ob,os=[(HL,ob)]:=by
 unfold opQ at h
 rw [hp,cond_true] at h
 obtain ⟨_,h⟩:=cond_some h
 unfold opH at h
 have fin:∀ {s':SV}{l:Obs},pairK s' l=some ([s],os)→os=l:=by
  intro s' l h
  unfold pairK at h
  injection h with h;injection h with _ h;exact h.symm
 cases hop:o.op with
 | alloc t =>
  rw [hop] at h
  simp only at h
  split at h
  ·obtain ⟨_,h⟩:=cond_some h;exact ⟨_,fin h⟩
  ·cases h
 | box t x =>
  rw [hop] at h
  simp only at h
  split at h
  ·obtain ⟨_,h⟩:=cond_some h;exact ⟨_,fin h⟩
  ·cases h
 | buildSlice t n ps =>
  rw [hop] at h
  simp only at h
  split at h
  ·split at h
   ·obtain ⟨_,h⟩:=cond_some h;exact ⟨_,fin h⟩
   ·cases h
  ·cases h
 | makeSlice t x y =>
  rw [hop] at h
  simp only at h
  split at h
  ·split at h
   ·obtain ⟨_,h⟩:=cond_some h;exact ⟨_,fin h⟩
   ·cases h
  ·cases h
 | _=>rw [hop] at hm;cases hm
theorem DI.step (hL:laidOutB E.P=true)(hC:OracleOk E.P E.C){ops:Array Oper}(D:Drawn ops){tr:List (SV × Obs)}(htl:tr.length=ops.size){T0:List SV}{B0:Obs}(hfree:∀ (j:Nat)(o:Oper),ops[j]?=some o→skipOp ops o=false→laysOp o=true→∀ d,o.dst=some d→Obs.get B0 d=none)
  (hY:∀ (j:Nat)(o:Oper)(x:SV × Obs),ops.toList[j]?=some o→tr[j]?=some x→(skipOp ops o=true→x.2=[])∧(skipOp ops o=false→Yield E ops B0 (Laid tr [] j) o (putAll ops ops.toList tr j T0) x))
  (hclean:Clean ops tr T0 B0){listed:Array Bool}{a:Act}{w:World}(h:DI E w0 F Mo ops tr T0 B0 listed a w){j:Nat}{o:Oper}{x:SV × Obs}(hjo:ops[j]?=some o)(hlate:skipOp ops o=false)(hx:tr[j]?=some x)(hu:listed.getD j false=false)
  (hr:∀ e ∈ o.after,Region.binds .any e=true→listed.getD e.on false=true){Q:Exit→Act→World→Prop}{K:Act→World→Prop}
  (hK:∀ a' w',DI E w0 F Mo ops tr T0 B0 (listed.setIfInBounds j true) a' w'→K a' w'):wpOp E.P ops Q j K a w:=by
 obtain ⟨hcl,hsz,honly,hheads,hdef,T,B,β,ht0,ht1,ht2,hb1,hb2,hb3,hhp,hR,hk⟩:=h
 have hjm:j < ops.size:=(Array.getElem?_eq_some_iff.1 hjo).1
 have hj:ops.toList[j]?=some o:=by rw [Array.getElem?_toList];exact hjo
 have hda:dstA ops o=o.dst:=dstA_of hlate
 have hjs:j < listed.size:=by rw [hsz];exact hjm
 have goneMono:∀ d,Gone ops listed d→Gone ops (listed.setIfInBounds j true) d:=by
  rintro d ⟨j',o',h1,h2,h3⟩
  refine ⟨j',o',h1,h2,?_⟩
  rw [getD_set _ _ _ _ hjs]
  split
  ·rfl
  ·exact h3
 have goneSet:∀ d,Gone ops (listed.setIfInBounds j true) d→Gone ops listed d∨linOf ops o=some d:=by
  rintro d ⟨j',o',h1,h2,h3⟩
  by_cases hjj:j=j'
  ·subst hjj
   rw [hjo] at h1;injection h1 with h1;subst h1
   exact .inr h2
  ·rw [getD_set _ _ _ _ hjs,if_neg hjj] at h3
   exact .inl ⟨j',o',h1,h2,h3⟩
 have notGone:∀ i,i ∈ o.looksAt ops→¬ Gone ops listed i:=by
  rintro i hi ⟨j',o',h1,h2,h3⟩
  rcases Nat.decEq j j' with h|h
  ·exact D.lin j' o' i h1 h2 j o hjo h hi
  ·subst h;rw [hu] at h3;cases h3
 have hsame:∀ i:Nat,i ∈ o.looksAt ops→T[i]?=(putAll ops ops.toList tr j T0)[i]?:=by
  intro i hi
  by_cases hw:∃ (k:Nat)(y:Oper),ops.toList[k]?=some y∧dstA ops y=some i
  ·obtain ⟨k,y,hk1,hk2⟩:=hw
   have huniq:∀ (k':Nat)(y':Oper),ops.toList[k']?=some y'→dstA ops y'=some i→k'=k:=fun k' y' h1 h2=>filterMap_nodup_ne D.nd h1 hk1 h2 hk2
   have hko:ops[k]?=some y:=by rw [←Array.getElem?_toList];exact hk1
   obtain ⟨hyl,hyd⟩:=dstA_some hk2
   have out:listed.getD k false=false→j≤k→T[i]?=(putAll ops ops.toList tr j T0)[i]?:=by
    intro hul hjk
    rw [ht1 i (fun k' y' h1 h2 h3=>by
     have:=huniq k' y' h1 h3
     subst this
     rw [hul] at h2;cases h2)]
    rw [putAll_out ops ops.toList tr j T0 i (fun k' y' hlt h1 h3=>by
     have:=huniq k' y' h1 h3
     omega)]
   rcases Nat.lt_trichotomy k j with hlt|heq|hgt
   ·rcases D.ap k j y o hlt hko hjo hyl hlate with hbef|hap
    ·have hlk:listed.getD k false=true:=closed_bef hcl hbef fun o' ho' e he hb=>hr e (by rw [hjo] at ho';injection ho' with ho';rw [ho'];exact he) hb
     obtain ⟨xk,hxk⟩:∃ xk,tr[k]?=some xk:=⟨_,List.getElem?_eq_getElem (by have:=get_lt hx;omega)⟩
     by_cases hil:i < T0.length
     ·rw [ht2 k y xk i hk1 hxk hlk hk2 hil (notGone i hi),putAll_in ops ops.toList tr j T0 i k y xk D.nd hk1 hxk hk2 hlt hil]
     ·rw [List.getElem?_eq_none (show T.length≤i by omega),List.getElem?_eq_none (by rw [putAll_len];omega)]
    ·exact absurd hi ((Oper.apart_spec hap).1 i hyd)
   ·subst heq
    exact out hu (Nat.le_refl _)
   ·rcases D.ap j k o y hgt hjo hko hlate hyl with hbef|hap
    ·refine out ?_ (by omega)
     cases hlk:listed.getD k false with
     | false=>rfl
     | true =>
      have:=bef_listed hcl hbef hlk
      rw [hu] at this;cases this
    ·exact absurd hi ((Oper.apart_spec hap).2.2 i hyd)
  ·rw [ht1 i (fun k y h1 _ h3=>hw ⟨k,y,h1,h3⟩),putAll_out ops ops.toList tr j T0 i (fun k y _ h1 h3=>hw ⟨k,y,h1,h3⟩)]
 have hI:Inv E.P w0 F Mo { T:=T,B:=B } a w:=⟨hdef,β,hR,hk⟩
 have fin0:∀ {T':List SV}{B':Obs} {β':Beta}{a':Act}{w':World},a'.defers=[]→T'.length=T0.length →
   (∀ i,(∀ (k:Nat)(o:Oper),ops.toList[k]?=some o→(listed.setIfInBounds j true).getD k false=true→dstA ops o≠some i)→T'[i]?=T0[i]?) →
   (∀ (k:Nat)(o:Oper)(x:SV × Obs)(i:Nat),ops.toList[k]?=some o→tr[k]?=some x→(listed.setIfInBounds j true).getD k false=true→dstA ops o=some i→i < T0.length→¬ Gone ops (listed.setIfInBounds j true) i→T'[i]?=some x.1) →
   Rel E.P Mo β' T' B' a'.tmps.toList w'→Kp w0 F β' B' w'→HH tr B0 (listed.setIfInBounds j true) B'→(∀ d y,d < HL→Obs.get B0 d=some y→Obs.get B' d=some y) →
   (∀ (k:Nat)(y:SV × Obs) d ob,d < HL→tr[k]?=some y→(listed.setIfInBounds j true).getD k false=true→(d,ob) ∈ y.2→¬ Gone ops (listed.setIfInBounds j true) d→(∀ (k':Nat)(x':SV × Obs),k < k'→tr[k']?=some x'→(listed.setIfInBounds j true).getD k' false=true→∀ ob',(d,ob') ∉ x'.2)→Obs.get B' d=some ob) →
   (∀ d ob,d < HL→Obs.get B' d=some ob→Obs.get B0 d=some ob∨∃ (k:Nat)(y:SV × Obs),tr[k]?=some y∧(listed.setIfInBounds j true).getD k false=true∧(d,ob) ∈ y.2∧¬ Gone ops (listed.setIfInBounds j true) d)→K a' w':=by
  intro T' B' β' a' w' hdef' hlen hT0' hT' hR2 hk2 hhp' hb0 hb2' hb3'
  apply hK
  refine ⟨closed_set hcl hjs (fun o' ho' e he hb=>hr e (by rw [hjo] at ho';injection ho' with ho';rw [ho'];exact he) hb),by simpa using hsz,fun k hkm=>?_,fun k hkm=>?_,hdef',T',B',β',hlen,hT0',hT',hb0,hb2',hb3',hhp',hR2,hk2⟩
  ·rw [getD_set _ _ _ _ hjs,if_neg (fun he=>by subst he;rw [tailAt_late (by rw [lateAt_of hjo];exact hlate)] at hkm;cases hkm)];exact honly k hkm
  ·rw [getD_set _ _ _ _ hjs]
   split
   ·rfl
   ·exact hheads k hkm
 have put0:∀ (v:SV)(i:Nat),(∀ (k:Nat)(o:Oper),ops.toList[k]?=some o→(listed.setIfInBounds j true).getD k false=true→dstA ops o≠some i)→(putT T o.dst v)[i]?=T0[i]?:=by
  intro v i hi
  have hnj:=hi j o hj (by rw [getD_set _ _ _ _ hjs,if_pos rfl])
  rw [hda] at hnj
  have:(putT T o.dst v)[i]?=T[i]?:=by
   unfold putT
   cases hd:o.dst with
   | none=>rfl
   | some d =>
    simp only
    rw [List.getElem?_set_ne (by intro h;subst h;exact hnj hd)]
  rw [this]
  refine ht1 i fun k y hk1 hk2=>?_
  by_cases hkj:j=k
  ·subst hkj
   rw [hj] at hk1;injection hk1 with hk1;subst hk1;rw [hda];exact hnj
  ·exact hi k y hk1 (by rw [getD_set _ _ _ _ hjs,if_neg hkj];exact hk2)
 have putK:∀ (v:SV)(k:Nat)(y:Oper)(z:SV × Obs)(i:Nat),j≠k→ops.toList[k]?=some y→tr[k]?=some z→(listed.setIfInBounds j true).getD k false=true→dstA ops y=some i→i < T0.length→¬ Gone ops (listed.setIfInBounds j true) i→(putT T o.dst v)[i]?=some z.1:=by
  intro v k y z i hkj hk1 hk2' hk3 hk4 hk5 hg
  rw [getD_set _ _ _ _ hjs,if_neg hkj] at hk3
  have:=ht2 k y z i hk1 hk2' hk3 hk4 hk5 (fun h=>hg (goneMono i h))
  unfold putT
  cases hd:o.dst with
  | none=>exact this
  | some d =>
   simp only
   rw [List.getElem?_set_ne (by
    intro h;subst h
    exact hkj (filterMap_nodup_ne D.nd hj hk1 (hda.trans hd) hk4))]
   exact this
 have fin:∀ {B':Obs} {β':Beta}{a':Act}{w':World},a'.defers=[]→Rel E.P Mo β' (putT T o.dst x.1) B' a'.tmps.toList w'→Kp w0 F β' B' w'→HH tr B0 (listed.setIfInBounds j true) B'→(∀ d y,d < HL→Obs.get B0 d=some y→Obs.get B' d=some y) →
   (∀ (k:Nat)(y:SV × Obs) d ob,d < HL→tr[k]?=some y→(listed.setIfInBounds j true).getD k false=true→(d,ob) ∈ y.2→¬ Gone ops (listed.setIfInBounds j true) d→(∀ (k':Nat)(x':SV × Obs),k < k'→tr[k']?=some x'→(listed.setIfInBounds j true).getD k' false=true→∀ ob',(d,ob') ∉ x'.2)→Obs.get B' d=some ob) →
   (∀ d ob,d < HL→Obs.get B' d=some ob→Obs.get B0 d=some ob∨∃ (k:Nat)(y:SV × Obs),tr[k]?=some y∧(listed.setIfInBounds j true).getD k false=true∧(d,ob) ∈ y.2∧¬ Gone ops (listed.setIfInBounds j true) d)→K a' w':=by
  intro B' β' a' w' hdef' hR2 hk2 hhp' hb0 hb2' hb3'
  refine fin0 hdef' (by rw [putT_len];exact ht0) (put0 _) (fun k y z i hk1 hk2' hk3 hk4 hk5 hg=>?_) hR2 hk2 hhp' hb0 hb2' hb3'
  by_cases hkj:j=k
  ·subst hkj
   rw [hj] at hk1;injection hk1 with hk1;subst hk1
   rw [hx] at hk2';injection hk2' with hk2';subst hk2'
   rw [hda] at hk4
   rw [hk4]
   show (T.set i x.1)[i]?=_
   rw [List.getElem?_set_self (by omega)]
  ·exact putK _ k y z i hkj hk1 hk2' hk3 hk4 hk5 hg
 have next:linOf ops o=none→∀ {B':Obs} {β':Beta}{v:Value}{w':World},Rel E.P Mo β' T B' a.tmps.toList w'→Kp w0 F β' B' w'→RS E.P w' (Mut Mo β' B') β' B' x.1 v→HH tr B0 (listed.setIfInBounds j true) B' →
   (∀ d y,d < HL→Obs.get B0 d=some y→Obs.get B' d=some y)→(∀ d ob,d < HL→Obs.get B d=some ob→Obs.get B' d=some ob)→(∀ d ob,d < HL→(d,ob) ∈ x.2→Obs.get B' d=some ob)→(∀ d ob,d < HL→Obs.get B' d=some ob→Obs.get B d=some ob∨(d,ob) ∈ x.2)→K (a.put o.dst v) w':=by
  intro hlin B' β' v w' hR' hk' hs hhp' hb0 hbB hbx hbf
  have goneEq:∀ d,¬ Gone ops listed d→¬ Gone ops (listed.setIfInBounds j true) d:=fun d h1 h2=>by
   rcases goneSet d h2 with h|h
   ·exact h1 h
   ·rw [hlin] at h;cases h
  have hIp:=Inv.put (st:={ T:=T,B:=B' }) hdef ⟨β',hR',hk',hs⟩ o.dst
  rw [put_eq] at hIp
  obtain ⟨hdef',β2,hR2,hk2⟩:=hIp
  refine fin hdef' hR2 hk2 hhp' hb0 (fun k y d ob hdl hk1 hk2' hk3 hng hcond=>?_) (fun d ob hdl hd=>?_)
  ·by_cases hkj:j=k
   ·subst hkj
    rw [hx] at hk1;injection hk1 with hk1;subst hk1
    exact hbx d ob hdl hk3
   ·rw [getD_set _ _ _ _ hjs,if_neg hkj] at hk2'
    refine hbB d ob hdl (hb2 k y d ob hdl hk1 hk2' hk3 (fun h=>hng (goneMono d h)) fun k' x' h1 h2 h3=>hcond k' x' h1 h2 ?_)
    rw [getD_set _ _ _ _ hjs]
    split
    ·rfl
    ·exact h3
  ·rcases hbf d ob hdl hd with h|h
   ·rcases hb3 d ob hdl h with h|⟨k,y,h1,h2,h3,h4⟩
    ·exact .inl h
    ·refine .inr ⟨k,y,h1,?_,h3,goneEq d h4⟩
     rw [getD_set _ _ _ _ hjs]
     split
     ·rfl
     ·exact h2
   ·refine .inr ⟨j,x,hx,by rw [getD_set _ _ _ _ hjs,if_pos rfl],h,goneEq d ?_⟩
    obtain ⟨ok,o1,o2,o3,o4⟩:=owner htl hY hdl hx h
    rintro ⟨j',o',g1,g2,g3⟩
    have hok:ok=o:=by rw [hj] at o1;injection o1 with o1;exact o1.symm
    subst hok
    obtain ⟨g4,_,s',t',g5⟩:=lin_tail g2
    rcases o4 with o4|⟨_,z,_,_,_,_,g6,_⟩
    ·have hlk:d ∈ o'.looksAt ops:=looksAt_op (by rw [g5];simp [Op.operands])
     rcases Nat.lt_trichotomy j j' with hlt|heq|hgt
     ·rcases D.ap j j' ok o' hlt hjo g1 hlate g4 with hbef|hap
      ·have:=bef_listed hcl hbef g3
       rw [hu] at this;cases this
      ·exact (Oper.apart_spec hap).1 d o4.1 hlk
     ·subst heq;rw [hu] at g3;cases g3
     ·rcases D.ap j' j o' ok hgt g1 hjo g4 hlate with hbef|hap
      ·obtain ⟨xj',hxj'⟩:∃ xj',tr[j']?=some xj':=⟨_,List.getElem?_eq_getElem (by have:=(Array.getElem?_eq_some_iff.1 g1).1;omega)⟩
       rcases (hY j' o' xj' (by rw [Array.getElem?_toList];exact g1) hxj').2 g4 with ⟨_,_,_,q,_⟩|⟨_,q,_⟩|⟨_,u1,d1,e1,c1,l1,q1,q2,q3,q4⟩|⟨_,_,_,_,_,_,q,_⟩
       ·obtain ⟨_,g7,_⟩:=lin_tail g2
        rw [g7] at q;cases q
       ·rw [g2] at q;cases q
       ·rw [g2] at q1;injection q1 with q1;subst q1
        rcases q3 with ⟨k1,y1,r1,r2,r3⟩|q3
        ·obtain ⟨ok1,p1,p2,p3,p4⟩:=owner htl hY hdl r2 r3
         rcases p4 with p4|⟨_,_,_,_,_,_,_,p5,_⟩
         ·have:=filterMap_nodup_ne D.nd p1 hj ((dstA_of p2).trans p4.1) (hda.trans o4.1)
          omega
         ·cases p5
        ·simp at q3
       ·rw [g5] at q;cases q
      ·exact (Oper.apart_spec hap).2.2 d o4.1 hlk
    ·exact D.lin j' o' d g1 g2 j ok hjo (fun e=>by subst e;rw [hu] at g3;cases g3) (store_looks g6)
 unfold wpOp
 rw [hjo]
 simp only
 have hwant:(o.guard=none∨∃ g want dj b,o.guard=some (g,want)∧(ops[g]?).bind (·.dst)=some dj∧(putAll ops ops.toList tr j T0).getD dj .dead=.bool b∧(b==want)=true)→Region.wanted o (yielded ops a.tmps)=true:=by
  intro hguard
  rcases hguard with hg|⟨g,want,dj,b,hg,hd,hs,hb⟩
  ·unfold Region.wanted;rw [hg]
  ·have hgd:=getD_of_get (hsame dj (looksAt_guard hg hd))
   obtain ⟨g1,_⟩:=guard_sound hI hg hd
   rw [g1 b (hgd.trans hs)];exact hb
 have hslot:∀ y ∈ o.op.operands,∀ P t,({ T:=putAll ops ops.toList tr j T0,B:=B0 }:St).get P t y=({ T:=T,B:=B }:St).get P t y:=by
  intro y hy P t
  cases y with
  | tmp i=>exact (getD_of_get (hsame i (looksAt_op hy))).symm
  | _=>rfl
 rcases (hY j o x hj hx).2 hlate with ⟨g,want,dj,hg,hd,hs,hxe⟩|⟨hguard,hlin,hq,hal,hos⟩|⟨hguard,u,d,e0,c0,l0,hlin,hcv,hlaid,hxe⟩|⟨hguard,t,d,y,p,s,hop,hdst,hTd,hlaid,hp,hxe,hdlo⟩
 rotate_right
 ·-- a new variable's content
  rw [if_pos (hwant hguard)]
  left
  have hld:d ∈ o.looksAt ops:=store_looks hop
  have hTd':T.getD d .dead=.ptr d []:=(getD_of_get (hsame d hld)).trans hTd
  obtain ⟨k,yk,hkj,hk1,hk2⟩:∃ (k:Nat)(y:SV × Obs),k < j∧tr[k]?=some y∧(d,.box t s) ∈ y.2:=by
   rcases hlaid with h|h
   ·exact h
   ·simp at h
  have hfresh:=(D.fresh j o hjo hlate t d y hop).2
  have notSt:∀ (k:Nat)(ok:Oper) t' z,ops.toList[k]?=some ok→ok.op=.store t' (.tmp d) z→k=j:=fun k ok t' z h1 h2=>by
   rcases Nat.decEq k j with h|h
   ·exact absurd (store_looks h2) (hfresh k ok (by rw [←Array.getElem?_toList];exact h1) h)
   ·exact h
  have hdl:=lowHL hdlo
  obtain ⟨ok,o1,o2,o3,o4⟩:=owner htl hY hdl hk1 hk2
  have o4:ok.dst=some d∧laysOp ok=true:=by
   rcases o4 with h|⟨_,_,_,_,_,_,h,_⟩
   ·exact h
   ·have:=notSt k ok _ _ o1 h
    omega
  have hB0d:Obs.get B0 d=none:=hfree k ok (by rw [←Array.getElem?_toList];exact o1) o2 o4.2 d o4.1
  have same:∀ (k':Nat)(y':SV × Obs)(ob':Ob),tr[k']?=some y'→(d,ob') ∈ y'.2→k'≠j→k'=k∧ob'=.box t s:=by
   intro k' y' ob' h1 h2 hne
   obtain ⟨ok',p1,p2,p3,p4⟩:=owner htl hY hdl h1 h2
   rcases p4 with p4|⟨_,_,_,_,_,_,h,_⟩
   ·have:=filterMap_nodup_ne D.nd o1 p1 ((dstA_of o2).trans o4.1) ((dstA_of p2).trans p4.1)
    subst this
    rw [hk1] at h1;injection h1 with h1;subst h1
    rw [o3] at p3
    simp only [List.cons.injEq,Prod.mk.injEq,and_true,true_and] at p3
    exact ⟨rfl,p3.symm⟩
   ·exact absurd (notSt k' ok' _ _ p1 h) hne
  have hBd:Obs.get B d=some (.box t s):=by
   have hgs:RS E.P w (Mut Mo β B) β B (.ptr d []) (a.eval (.tmp d)):=by
    have:=get_sound (st:={ T:=T,B:=B }) hR 0 (.tmp d)
    have e:({ T:=T,B:=B }:St).get E.P 0 (.tmp d)=.ptr d []:=hTd'
    rwa [e] at this
   generalize a.eval (.tmp d)=vy at hgs
   cases hgs with
   | ptr h1 =>
    rcases hb3 d _ hdl h1 with h|⟨k',y',h2,h3,h4,_⟩
    ·rw [hB0d] at h;cases h
    ·have hne:k'≠j:=fun e=>by subst e;rw [hu] at h3;cases h3
     rw [h1,(same k' y' _ h2 h4 hne).2]
  have hE:opE E o { T:=T,B:=B } (fun st=>some (st.T,st.B))=some (T,Obs.ins d p (Obs.del d B)):=by
   have e1:({ T:=T,B:=B }:St).get E.P 0 (.tmp d)=.ptr d []:=hTd'
   have e0:hpEff E o { T:=T,B:=B }=false:=by unfold hpEff;rw [hop];simp only [e1]
   unfold opE
   rw [e0,cond_false]
   unfold opE0
   rw [hop]
   have e2:(Ob.box t s).putAt E.P t (({ T:=T,B:=B }:St).get E.P t y) []=some p:=by rw [←hslot y (by rw [hop];simp [Op.operands])];exact hp
   simp only
   rw [e1]
   simp only
   rw [hBd]
   simp only
   rw [e2]
   simp only [Ob.typAt,typT,beq_self_eq_true,cond_true,hdst]
   rfl
  obtain ⟨st',e1,e2⟩:=opE_sound hL hC hI (D.lo j o hjo hlate).1 hE
  simp only [Option.some.injEq,Prod.mk.injEq] at e1
  refine e2 _ _ fun a' w' hI'=>?_
  obtain ⟨hdef',β',hR',hk'⟩:=hI'
  rw [e1.1,e1.2] at hR'
  rw [e1.2] at hk'
  have hget:∀ e,Obs.get (Obs.ins d p (Obs.del d B)) e=if d=e then some p else Obs.get B e:=by
   intro e
   rw [Obs.get_ins hdl,Obs.get_del hdl]
   by_cases he:d=e
   ·rw [if_pos he,if_pos he]
   ·rw [if_neg he,if_neg he,if_neg he]
  refine fin hdef' (by rw [hdst];exact hR') hk' (hhp.keep hjs hx (fun ob hm=>by rw [hxe] at hm;simp only [List.mem_singleton,Prod.mk.injEq] at hm;omega) (by rw [Obs.hps_ins hdl,Obs.hps_del hdl]) (by rw [hasH_ins hdl,hasH_del hdl])) (fun e z hel hz=>?_) (fun k' y' e ob' hel h1 h2 h3 hng hcond=>?_) (fun e ob' hel h1=>?_)
  ·rw [hget,if_neg (fun he=>by subst he;rw [hB0d] at hz;cases hz)]
   exact hb1 e z hel hz
  ·rw [hget]
   by_cases hkk:k'=j
   ·subst hkk
    rw [hx] at h1;injection h1 with h1;subst h1
    rw [hxe] at h3
    simp only [List.mem_singleton,Prod.mk.injEq] at h3
    rw [if_pos h3.1.symm,h3.2]
   ·by_cases he:d=e
    ·subst he
     have hkk':=(same k' y' ob' h1 h3 hkk).1
     exfalso
     refine hcond j x (by omega) hx (by rw [getD_set _ _ _ _ hjs,if_pos rfl]) (p) ?_
     rw [hxe];simp
    ·rw [if_neg he]
     rw [getD_set _ _ _ _ hjs,if_neg (Ne.symm hkk)] at h2
     refine hb2 k' y' e ob' hel h1 h2 h3 (fun h=>hng (goneMono e h)) fun k2 x2 q1 q2 q3=>hcond k2 x2 q1 q2 ?_
     rw [getD_set _ _ _ _ hjs]
     split
     ·rfl
     ·exact q3
  ·rw [hget] at h1
   by_cases he:d=e
   ·subst he
    rw [if_pos rfl] at h1;injection h1 with h1;subst h1
    refine .inr ⟨j,x,hx,by rw [getD_set _ _ _ _ hjs,if_pos rfl],by rw [hxe];simp,?_⟩
    rintro ⟨j',o',g1,g2,g3⟩
    obtain ⟨_,_,s',t',g5⟩:=lin_tail g2
    rcases Nat.decEq j' j with hne|heq
    ·exact hfresh j' o' g1 hne (looksAt_op (by rw [g5];simp [Op.operands]))
    ·subst heq
     rw [hjo] at g1;injection g1 with g1;subst g1
     rw [hop] at g5;cases g5
   ·rw [if_neg he] at h1
    rcases hb3 e ob' hel h1 with h|⟨k2,y2,q1,q2,q3,q4⟩
    ·exact .inl h
    ·refine .inr ⟨k2,y2,q1,?_,q3,fun h=>by
      rcases goneSet e h with h|h
      ·exact q4 h
      ·obtain ⟨_,_,s',t',g5⟩:=lin_tail h
       rw [hop] at g5;cases g5⟩
     rw [getD_set _ _ _ _ hjs]
     split
     ·rfl
     ·exact q2
 rotate_right
 ·-- bytes that go on as data
  rw [if_pos (hwant hguard)]
  left
  obtain ⟨_,_,s1,t1,hop⟩:=lin_tail hlin
  have hcv':convA E o { T:=T,B:=B }=some (.own u d):=convA_congr hslot hcv
  have hrow:∃ e l,Obs.get B d=some (.row e l):=by
   obtain ⟨y,hg⟩:=convA_own hcv'
   have hgs:RS E.P w (Mut Mo β B) β B (.own u d) (a.eval y):=by
    have:=get_sound (st:={ T:=T,B:=B }) hR o.type y
    rwa [hg] at this
   generalize a.eval y=vy at hgs
   cases hgs with
   | own _ h2=>exact ⟨_,_,h2⟩
   | ownNil _ h2=>exact ⟨_,_,h2⟩
  have hdl:d < HL:=by obtain ⟨e,l,h⟩:=hrow;exact row_low h
  obtain ⟨k,y,hkj,h1,h2⟩:∃ (k:Nat)(y:SV × Obs),k < j∧tr[k]?=some y∧(d,.row e0 (c0 :: l0)) ∈ y.2:=by
   rcases hlaid with h|h
   ·exact h
   ·simp at h
  have lays:∀ (k:Nat)(y:SV × Obs)(ob:Ob),(∃ e l,ob=.row e l)→tr[k]?=some y→(d,ob) ∈ y.2→∃ ok,ops.toList[k]?=some ok∧skipOp ops ok=false∧ok.dst=some d∧laysOp ok=true∧y.2=[(d,ob)]:=by
   intro k y ob hrow h1 h2
   obtain ⟨ok,o1,o2,o3,o4⟩:=owner htl hY hdl h1 h2
   rcases o4 with o4|⟨_,_,_,_,_,_,_,h,_⟩
   ·exact ⟨ok,o1,o2,o4.1,o4.2,o3⟩
   ·obtain ⟨e,l,rfl⟩:=hrow
    cases h
  obtain ⟨ok,k1,k2,k3,k4,k5⟩:=lays k y _ ⟨_,_,rfl⟩ h1 h2
  have hB0d:Obs.get B0 d=none:=hfree k ok (by rw [←Array.getElem?_toList];exact k1) k2 k4 d k3
  have hBd:Obs.get B d=some (.row e0 (c0 :: l0)):=by
   obtain ⟨e1,l1,hBd⟩:=hrow
   rcases hb3 d _ hdl hBd with h|⟨k',y',h1',_,h3',_⟩
   ·rw [hB0d] at h;cases h
   ·obtain ⟨ok',k1',k2',k3',_,k5'⟩:=lays k' y' _ ⟨_,_,rfl⟩ h1' h3'
    have:=filterMap_nodup_ne D.nd k1 k1' ((dstA_of k2).trans k3) ((dstA_of k2').trans k3')
    subst this
    rw [h1] at h1';injection h1' with h1';subst h1'
    rw [k5] at k5'
    simp only [List.cons.injEq,Prod.mk.injEq,and_true,true_and] at k5'
    rw [hBd,k5']
  obtain ⟨v,w',q1,q2,q3,q4⟩:=conv_own (a:=a) hR hk hcv' (by show fullRow (Obs.get B d)=true;rw [hBd];rfl)
  unfold Oper.wp
  rw [q1,Oper.upon_value]
  have hIp:=Inv.put (st:={ T:=T,B:=B }) hdef ⟨β,q2,q3,q4⟩ o.dst
  rw [put_eq] at hIp
  have hIr:=Inv.retireAll [d] hIp
  have hret:retireAll [d] ({ T:=putT T o.dst (.own u d),B:=B }:St)={ T:=SV.drops d (.list (c0 :: l0)) (putT T o.dst (.own u d)),B:=Obs.drop d (.list (c0 :: l0)) (Obs.del d B) }:=by
   show St.retire { T:=putT T o.dst (.own u d),B:=B } d=_
   rw [retire_lo hdl]
   simp only
   rw [hBd]
   rfl
  rw [hret] at hIr
  obtain ⟨hdef',β',hR',hk'⟩:=hIr
  have hget:∀ e,Obs.get (Obs.drop d (.list (c0 :: l0)) (Obs.del d B)) e=if d=e then none else (Obs.get B e).map (Ob.drop d (.list (c0 :: l0))):=by
   intro e
   rw [Obs.get_drop,Obs.get_del hdl]
   by_cases he:d=e <;> simp [he]
  have hobj:∀ e ob,e < HL→Obs.get B e=some ob→ob.drop d (.list (c0 :: l0))=ob:=by
   intro e ob hel hob
   refine Ob.drop_id d _ ?_
   rcases hb3 e ob hel hob with h|⟨k',y',h1',_,h3',_⟩
   ·exact hclean.b0 j o d hjo hlin e ob h
   ·exact hclean.b j o d hjo hlin k' y' e ob h1' h3'
  have hgone:Gone ops (listed.setIfInBounds j true) d:=⟨j,o,hjo,hlin,by rw [getD_set _ _ _ _ hjs,if_pos rfl]⟩
  refine fin0 hdef' (by rw [drops_len,putT_len];exact ht0) (fun i hi=>?_) (fun k' o' x' i p1 p2 p3 p4 p5 p6=>?_) hR' hk' (hhp.keep hjs hx (fun ob hm=>by rw [hxe] at hm;simp at hm) (by rw [Obs.hps_drop,Obs.hps_del hdl]) (by rw [hasH_drop,hasH_del hdl])) (fun e z hel hz=>?_) (fun k' y' e ob' hel p1 p2 p3 p4 p5=>?_) (fun e ob' hel p1=>?_)
  ·rw [drops_get,put0 _ i hi]
   cases h0:T0[i]? with
   | none=>rfl
   | some s0=>rw [Option.map_some,SV.drop_id d _ s0 (hclean.t0 j o d hjo hlin i s0 h0)]
  ·rw [drops_get]
   by_cases hkj:j=k'
   ·subst hkj
    rw [hj] at p1;injection p1 with p1;subst p1
    rw [hx] at p2;injection p2 with p2;subst p2
    rw [hda] at p4
    rw [p4]
    have:(putT T (some i) (.own u d))[i]?=some (.own u d):=by
     show (T.set i (.own u d))[i]?=_
     rw [List.getElem?_set_self (by omega)]
    rw [this,hxe]
    show some (SV.drop d (.list (c0 :: l0)) (.own u d))=_
    unfold SV.drop
    rw [beq_self_eq_true];rfl
   ·rw [putK _ k' o' x' i hkj p1 p2 p3 p4 p5 p6,Option.map_some]
    have hne:i≠d:=fun e=>by subst e;exact p6 hgone
    rw [SV.drop_id d _ x'.1 (hclean.t j o d hjo hlin k' o' x' i p1 p2 p4 p5 hne)]
  ·rw [hget,if_neg (fun he=>by subst he;rw [hB0d] at hz;cases hz),hb1 e z hel hz,Option.map_some,hobj e z hel (hb1 e z hel hz)]
  ·have hne:d≠e:=fun he=>by subst he;exact p4 hgone
   rw [hget,if_neg hne]
   have hkj:j≠k':=fun he=>by
    subst he
    rw [hx] at p1;injection p1 with p1;subst p1
    rw [hxe] at p3;simp at p3
   rw [getD_set _ _ _ _ hjs,if_neg hkj] at p2
   have:=hb2 k' y' e ob' hel p1 p2 p3 (fun h=>p4 (goneMono e h)) fun k2 x2 r1 r2 r3=>p5 k2 x2 r1 r2 (by
    rw [getD_set _ _ _ _ hjs]
    split
    ·rfl
    ·exact r3)
   rw [this,Option.map_some,hobj e ob' hel this]
  ·rw [hget] at p1
   by_cases hne:d=e
   ·rw [if_pos hne] at p1;cases p1
   ·rw [if_neg hne] at p1
    cases hB:Obs.get B e with
    | none=>rw [hB] at p1;cases p1
    | some ob0 =>
     rw [hB,Option.map_some,hobj e ob0 hel hB] at p1
     injection p1 with p1;subst p1
     rcases hb3 e ob0 hel hB with h|⟨k2,y2,r1,r2,r3,r4⟩
     ·exact .inl h
     ·refine .inr ⟨k2,y2,r1,?_,r3,fun h=>?_⟩
      ·rw [getD_set _ _ _ _ hjs]
       split
       ·rfl
       ·exact r2
      ·rcases goneSet e h with h|h
       ·exact r4 h
       ·rw [hlin] at h;injection h with h;exact hne h
 ·-- not wanted
  have hgd:=getD_of_get (hsame dj (looksAt_guard hg hd))
  obtain ⟨g1,g2⟩:=guard_sound hI hg hd
  have hw:Region.wanted o (yielded ops a.tmps)=false:=by
   rcases hs with hs|⟨b,hs,hb⟩
   ·exact g2 (hgd.trans hs)
   ·rw [g1 b (hgd.trans hs)];exact hb
  rw [if_neg (by rw [hw];simp)]
  subst hxe
  have hlin0:linOf ops o=none:=by
   cases hl:linOf ops o with
   | none=>rfl
   | some d =>
    obtain ⟨_,h,_⟩:=lin_tail hl
    rw [h] at hg;cases hg
  exact next hlin0 hR hk .undef (hhp.keep hjs hx (fun ob hm=>by simp at hm) rfl rfl) hb1 (fun d ob _ h=>h) (fun d ob _ h=>by simp at h) (fun d ob _ h=>.inl h)
 ·have hw:Region.wanted o (yielded ops a.tmps)=true:=by
   rcases hguard with hg|⟨g,want,dj,b,hg,hd,hs,hb⟩
   ·unfold Region.wanted;rw [hg]
   ·have hgd:=getD_of_get (hsame dj (looksAt_guard hg hd))
    obtain ⟨g1,_⟩:=guard_sound hI hg hd
    rw [g1 b (hgd.trans hs)];exact hb
  rw [if_pos hw]
  left
  have hq':opQ E o { T:=T,B:=B } pairK=some ([x.1],x.2):=by
   have hpre:∃ l,Obs.hps B=Obs.hps B0++l:=by
    rcases hhp.2 with ⟨h,_⟩|⟨_,_,ob,_,_,_,h⟩
    ·exact ⟨[],by rw [h,List.append_nil]⟩
    ·exact ⟨_,h⟩
   obtain ⟨l,hl⟩:=hpre
   refine opQ_congr (st:={ T:=putAll ops ops.toList tr j T0,B:=B0 }) (heap_pref hb1 hl) ⟨l,hl⟩ hhp.1 (fun hp hm=>?_) (fun y hy P t=>?_) hq
   ·obtain ⟨ob,hob⟩:=opQ_makes hp hm hq
    rcases hhp.2 with ⟨h,_⟩|⟨k,y,ob',h1,h2,h3,_⟩
    ·exact h
    ·have:=heap_one htl hY (ob:=ob) (ob':=ob') hx (by rw [hob];simp) h1 (by rw [h3];simp)
     subst this
     rw [hu] at h2;cases h2
   cases y with
   | tmp i=>exact (getD_of_get (hsame i (looksAt_op hy))).symm
   | _=>rfl
  have hfr:∀ d,laysOp o=true→o.dst=some d→Obs.get B d=none:=by
   intro d hl hd
   have hdl:d < HL:=by have:=(D.lo j o hjo hlate).1;rw [hd] at this;exact lowHL this
   cases hg:Obs.get B d with
   | none=>rfl
   | some ob =>
    exfalso
    rcases hb3 d ob hdl hg with h|⟨k,y,h1,h2,h3,_⟩
    ·rw [hfree j o hjo hlate hl d hd] at h;cases h
    ·obtain ⟨ok,o1,o2,o3,o4⟩:=owner htl hY hdl h1 h3
     rcases o4 with o4|⟨t,z,v,s,k1,y1,hop,_,hk1,h4,h5⟩
     ·have:=filterMap_nodup_ne D.nd o1 hj ((dstA_of o2).trans o4.1) (hda.trans hd)
      subst this
      rw [hu] at h2;cases h2
     ·have hko:ops[k]?=some ok:=by rw [←Array.getElem?_toList];exact o1
      have hfresh:=(D.fresh k ok hko o2 t d z hop).2
      obtain ⟨ok1,p1,p2,p3,p4⟩:=owner htl hY hdl h4 h5
      rcases p4 with p4|⟨_,_,_,_,_,_,h,_⟩
      ·have:=filterMap_nodup_ne D.nd p1 hj ((dstA_of p2).trans p4.1) (hda.trans hd)
       subst this
       rcases D.ap k1 k o ok hk1 hjo hko hlate o2 with hbef|hap
       ·have:=bef_listed hcl hbef h2
        rw [hu] at this;cases this
       ·exact (Oper.apart_spec hap).1 d hd (store_looks hop)
      ·exact hfresh k1 ok1 (by rw [←Array.getElem?_toList];exact p1) (by omega) (store_looks h)
  have hlo:=D.lo j o hjo hlate
  have hF:Free E o { T:=T,B:=B }:=by
   refine ⟨fun h=>?_,fun t ht y hy _=>?_⟩
   ·have hl:laysOp o=true:=by
     unfold laysOp
     split at h <;> rename_i hop <;> first
      | (rw [hop];done)
      | (rw [hop])
      | cases h
    obtain ⟨d,hd⟩:=hlo.2 hl
    rw [hd]
    exact hfr d hl hd
   ·rw [hal t ht] at hy;simp at hy
  obtain ⟨s,os,hs,hcase⟩:=opQ_sound hL hC hR hk hlo.1 hF hq'
  have hso:s=x.1∧os=x.2:=by
   unfold pairK at hs
   simp only [Option.some.injEq,Prod.mk.injEq,List.cons.injEq,and_true] at hs
   exact hs
  obtain ⟨rfl,hoseq⟩:=hso
  rcases hcase with ⟨hnil,hwp⟩|⟨hnn,hwp⟩
  ·refine hwp _ _ fun v w' hv=>?_
   have hx2:x.2=[]:=by rw [←hoseq];exact hnil
   exact next hlin (hR.world hv.size hv.old) (hk.world hv.size hv.old hv.os hv.output) hv.rs (hhp.keep hjs hx (fun ob hm=>by rw [hx2] at hm;simp at hm) rfl rfl) hb1 (fun d ob _ h=>h) (fun d ob _ h=>by rw [hx2] at h;simp at h) (fun d ob _ h=>.inl h)
  ·refine hwp _ _ fun v w' hp=>?_
   rcases hos with h|⟨d,ob,h,hd,hl,hdl⟩|⟨ob,h,hno,hhas⟩
   ·rw [hoseq] at hnn;exact absurd h hnn
   ·have hdn:=hfr d hl hd
    rw [hoseq,h] at hp
    have hlay:(({ T:=T,B:=B }:St).lay [(d,ob)])={ T:=T,B:=Obs.ins d ob B }:=by
     rw [lay_one _ (lowHL hdl),retire_id hdn]
    rw [hlay] at hp
    obtain ⟨β',p1,p2,p3⟩:=hp
    have hne:∀ d' y,Obs.get B d'=some y→d≠d':=fun d' y hy he=>by subst he;rw [hdn] at hy;cases hy
    refine next hlin p1 p2 p3 (hhp.keep hjs hx (fun ob' hm=>by rw [h] at hm;simp only [List.mem_singleton,Prod.mk.injEq] at hm;have:=lowHL hdl;omega) (Obs.hps_ins (lowHL hdl) _ _) (hasH_ins (lowHL hdl) _ _)) (fun d' y hel hy=>?_) (fun d' y hel hy=>?_) (fun d' y hel hy=>?_) (fun d' y hel hy=>?_)
    ·rw [Obs.get_ins (lowHL hdl),if_neg (hne d' y (hb1 d' y hel hy))];exact hb1 d' y hel hy
    ·rw [Obs.get_ins (lowHL hdl),if_neg (hne d' y hy)];exact hy
    ·rw [h] at hy
     simp only [List.mem_singleton,Prod.mk.injEq] at hy
     obtain ⟨rfl,rfl⟩:=hy
     exact ins_self (lowHL hdl) _ _
    ·rw [Obs.get_ins (lowHL hdl)] at hy
     by_cases hdd:d=d'
     ·subst hdd
      rw [if_pos rfl] at hy;injection hy with hy;subst hy
      exact .inr (by rw [h];simp)
     ·rw [if_neg hdd] at hy;exact .inl hy
   ·-- one more of the heap
    rw [hoseq,h] at hp
    have hlay:(({ T:=T,B:=B }:St).lay [(HL,ob)])={ T:=T,B:=Obs.setH (Obs.hps B++[ob.he]) B }:=by
     unfold St.lay St.lay
     rw [beq_self_eq_true,cond_true]
    rw [hlay] at hp
    obtain ⟨β',p1,p2,p3⟩:=hp
    have hlo':∀ d,d < HL→Obs.get (Obs.setH (Obs.hps B++[ob.he]) B) d=Obs.get B d:=fun d hd=>by rw [Obs.get_lo hd,Obs.get_lo hd,Obs.get0_setH,if_neg (by omega)]
    have hnone:Obs.hps B=Obs.hps B0:=by
     rcases hhp.2 with ⟨h,_⟩|⟨k,y,ob',h1,h2,h3,_⟩
     ·exact h
     ·have:=heap_one htl hY (ob:=ob) (ob':=ob') hx (by rw [h];simp) h1 (by rw [h3];simp)
      subst this
      rw [hu] at h2;cases h2
    have hHB:Obs.hasH B=true:=by rw [hhp.1];exact hhas
    refine next hlin p1 p2 p3 ⟨?_,.inr ⟨j,x,ob,hx,by rw [getD_set _ _ _ _ hjs,if_pos rfl],h,?_⟩⟩ (fun d' y hel hy=>by rw [hlo' d' hel];exact hb1 d' y hel hy) (fun d' y hel hy=>by rw [hlo' d' hel];exact hy) (fun d' y hel hy=>by
     rw [h] at hy
     simp only [List.mem_singleton,Prod.mk.injEq] at hy
     omega) (fun d' y hel hy=>.inl (by rwa [hlo' d' hel] at hy))
    ·rw [←hhp.1]
     rcases hasH_setH (Obs.hps B++[ob.he]) B with h|h
     ·exact h
     ·rw [h,hHB]
    ·rw [setH_hps hHB,hnone]

def Steady (P:Program) {α:Type}(s:Sem α):Prop:=(∃ a,∀ w,s.run P w=.ok a w)∨∀ w,∃ x w',s.run P w=.halt x w'
theorem Steady.pure {P:Program} {α:Type}(a:α):Steady P (pure a:Sem α):=.inl ⟨a,fun w=>rfl⟩
theorem Steady.halt {P:Program} {α:Type}(h:Halt):Steady P (.halt h:Sem α):=.inr fun w=>⟨h,w,rfl⟩
theorem Steady.bind {P:Program} {α β:Type}{s:Sem α}{f:α→Sem β}(h:Steady P s)(hf:∀ a,Steady P (f a)):Steady P (s >>= f):=by
 rcases h with ⟨a,h⟩|h
 ·rcases hf a with ⟨b,g⟩|g
  ·refine .inl ⟨b,fun w=>?_⟩
   rw [Sem.run_bind,h w,Result.andThen_ok,g w]
  ·refine .inr fun w=>?_
   obtain ⟨x,w',g⟩:=g w
   exact ⟨x,w',by rw [Sem.run_bind,h w,Result.andThen_ok,g]⟩
 ·refine .inr fun w=>?_
  obtain ⟨x,w',h⟩:=h w
  exact ⟨x,w',by rw [Sem.run_bind,h];rfl⟩
theorem Steady.after {P:Program} {α β:Type}{s:Sem α}{f:α→Sem β}(hf:∀ a w,∃ x w',(f a).run P w=.halt x w'):Steady P (s >>= f):=by
 refine .inr fun w=>?_
 rw [Sem.run_bind]
 cases h:s.run P w with
 | ok a w'=>rw [Result.andThen_ok];exact hf a w'
 | halt x w'=>exact ⟨x,w',rfl⟩
theorem steady_underlying {P:Program}(t:TypeId):Steady P (underlying t):=by
 unfold underlying
 refine Steady.bind (.inl ⟨P,fun w=>rfl⟩) fun p=>?_
 split
 ·exact .pure _
 ·exact .halt _
theorem steady_typeInfo {P:Program}(t:TypeId):Steady P (typeInfo t):=by
 unfold typeInfo
 refine Steady.bind (.inl ⟨P,fun w=>rfl⟩) fun p=>?_
 split
 ·exact .pure _
 ·exact .halt _
theorem steady_sizeOf {P:Program}(t:TypeId):Steady P (sizeOf t):=by
 unfold sizeOf
 exact Steady.bind (steady_typeInfo t) fun _=>.pure _
theorem steady_asIntOf {P:Program}(v:Value):Steady P (asIntOf v):=by
 unfold asIntOf
 split
 ·exact .pure _
 ·exact .halt _
 ·exact .halt _
theorem halts_bounds {P:Program} {α:Type}(x y:Int)(b:Bool)(c:BoundsCode)(w:World):∃ h w',(runtimePanic (.bounds x y b c):Sem α).run P w=.halt h w':=⟨_,_,rfl⟩
theorem steady_boundsPanic {P:Program} {α:Type}(k:IntKind)(x y:Int)(c:BoundsCode):Steady P (boundsPanic k x y c:Sem α):=by
 unfold boundsPanic
 simp only
 split
 ·exact Steady.after fun a w=>halts_bounds _ _ _ _ _
 ·exact Steady.after fun a w=>halts_bounds _ _ _ _ _
theorem steady_sliceBound {P:Program}(v:Value)(n:Nat)(c:BoundsCode):Steady P (Instr.sliceBound v n c):=by
 unfold Instr.sliceBound
 refine Steady.bind (steady_asIntOf v) fun p=>?_
 obtain ⟨k,i⟩:=p
 simp only
 split
 ·exact .pure _
 ·exact steady_boundsPanic _ _ _ _
theorem steady_sliceBounds {P:Program}(b:Bool)(n c:Nat)(lo hi mx:Option Value):Steady P (Instr.sliceBounds b n c lo hi mx):=by
 have h3:∀ (m h:Nat),Steady P (match lo with
   | some v=>do
    let l ←Instr.sliceBound v h (if mx.isSome=true then BoundsCode.slice3C else BoundsCode.sliceB)
    Pure.pure (l,h,m)
   | none=>do
    let l ←Pure.pure 0
    Pure.pure (l,h,m):Sem (Nat × Nat × Nat)):=by
  intro m h
  split
  ·exact Steady.bind (steady_sliceBound _ _ _) fun _=>.pure _
  ·exact Steady.bind (.pure _) fun _=>.pure _
 unfold Instr.sliceBounds
 simp only
 split
 ·refine Steady.bind (steady_sliceBound _ _ _) fun m=>?_
  split
  ·exact Steady.bind (steady_sliceBound _ _ _) fun h=>h3 m h
  ·exact Steady.bind (steady_sliceBound _ _ _) fun h=>h3 m h
  ·exact Steady.bind (.pure _) fun h=>h3 m h
  ·exact Steady.bind (.halt _) fun h=>h3 m h
 ·refine Steady.bind (.pure _) fun m=>?_
  split
  ·exact Steady.bind (steady_sliceBound _ _ _) fun h=>h3 m h
  ·exact Steady.bind (steady_sliceBound _ _ _) fun h=>h3 m h
  ·exact Steady.bind (.pure _) fun h=>h3 m h
  ·exact Steady.bind (.halt _) fun h=>h3 m h
theorem steady_asAddr {P:Program}(v:Value):Steady P (asAddr v):=by
 unfold asAddr
 split
 ·exact .pure _
 ·exact .inr fun w=>⟨_,w,rfl⟩
 ·exact .halt _
theorem steady_slice {P:Program}(t:TypeId)(x:Value)(lo hi mx:Option Value):Steady P (Instr.slice t x lo hi mx):=by
 unfold Instr.slice
 refine Steady.bind (steady_underlying t) fun d=>?_
 split
 ·simp only
  split
  ·exact .halt _
  ·refine Steady.bind (steady_sliceBounds _ _ _ _ _ _) fun p=>?_
   obtain ⟨l,h,m⟩:=p
   exact .pure _
 ·refine Steady.bind (steady_sliceBounds _ _ _ _ _ _) fun p=>?_
  obtain ⟨l,h,m⟩:=p
  exact Steady.bind (steady_sizeOf _) fun _=>.pure _
 ·refine Steady.bind (steady_asAddr _) fun _=>Steady.bind (steady_underlying _) fun d=>?_
  split
  ·refine Steady.bind (steady_sliceBounds _ _ _ _ _ _) fun p=>?_
   obtain ⟨l,h,m⟩:=p
   exact Steady.bind (steady_sizeOf _) fun _=>.pure _
  ·exact .halt _
 ·exact .halt _
theorem steady_sliceAt {P:Program}(t:TypeId)(x:Value)(lo hi mx:Option Value):Steady P (Instr.sliceAt t x lo hi mx):=by
 unfold Instr.sliceAt
 refine Steady.bind (steady_underlying t) fun d=>?_
 split
 ·refine Steady.bind ?_ fun _=>?_
  ·unfold Instr.sureAddr
   split
   ·exact .pure _
   ·exact .halt _
  ·refine Steady.bind (steady_sliceBounds _ _ _ _ _ _) fun p=>?_
   obtain ⟨l,h,m⟩:=p
   exact Steady.bind (steady_sizeOf _) fun _=>.pure _
 ·exact steady_slice _ _ _ _ _
theorem steady_idxEnd {P:Program}(k:IntKind)(i:Int)(base:Option Addr)(len:Nat)(elem:TypeId)(tiny:Bool):Steady P (match base with
  | some a=>if 0≤i∧i < (len:Int) then do
    let z ←Go.sizeOf elem
    pure (Value.pointer (some (a.add (i.toNat * z))))
   else if tiny=true then unsupported (.noEntry "op/indexAddr.an index out of range at an array of length 0 or 1 (ledger 616)") else boundsPanic k i (len:Int) .index
  | none=>boundsPanic k i 0 .index:Sem Value):=by
 split
 ·split
  ·exact Steady.bind (steady_sizeOf _) fun _=>.pure _
  ·split
   ·exact .halt _
   ·exact steady_boundsPanic _ _ _ _
 ·exact steady_boundsPanic _ _ _ _
theorem steady_indexAt {P:Program}(t:TypeId)(x ix:Value):Steady P (Instr.indexAt t x ix):=by
 unfold Instr.indexAt
 refine Steady.bind (steady_asIntOf ix) fun p=>?_
 obtain ⟨k,i⟩:=p
 refine Steady.bind (steady_underlying t) fun d=>?_
 split
 ·refine Steady.bind ?_ fun a=>Steady.bind (.pure _) fun q=>?_
  ·unfold Instr.sureAddr
   split
   ·exact .pure _
   ·exact .halt _
  ·obtain ⟨base,len,elem⟩:=q
   exact Steady.bind (steady_underlying t) fun d2=>steady_idxEnd k i base len elem _
 ·refine Steady.bind (.pure _) fun q=>?_
  obtain ⟨base,len,elem⟩:=q
  exact Steady.bind (steady_underlying t) fun d2=>steady_idxEnd k i base len elem _
 ·refine Steady.bind (.halt _) fun q=>?_
  obtain ⟨base,len,elem⟩:=q
  exact Steady.bind (steady_underlying t) fun d2=>steady_idxEnd k i base len elem _
theorem steady_value {P:Program}{s:Sem Value}(h:Steady P s):(∃ v,∀ w,(do pure (Next.value (←s)):Sem Next).run P w=.ok (.value v) w)∨∀ w,∃ x w',(do pure (Next.value (←s)):Sem Next).run P w=.halt x w':=by
 rcases h with ⟨a,h⟩|h
 ·refine .inl ⟨a,fun w=>?_⟩
  rw [Sem.run_bind,h w];rfl
 ·refine .inr fun w=>?_
  obtain ⟨x,w',h⟩:=h w
  exact ⟨x,w',by rw [Sem.run_bind,h];rfl⟩
def FaOk (P:Program)(o:Oper):Prop:=∀ t x f,o.op=.fieldAddr t x f→∃ fs fd i,P.underlying t=some (.struct fs)∧fs[f]?=some fd∧P.info? fd.type=some i∧P.cellsOf fd.type≠0
theorem faOk_spec {E:Env}{ops:Array Oper}(h:faOk E ops=true){j:Nat}{o:Oper}(hj:ops[j]?=some o):FaOk E.P o:=by
 intro t x f ho
 unfold faOk at h
 have:=List.all_eq_true.1 h o (by simpa using Array.mem_of_getElem? hj)
 rw [ho] at this
 simp only at this
 split at this
 ·rename_i fs hu
  split at this
  ·rename_i fd hf
   simp only [Bool.and_eq_true,decide_eq_true_eq,Bool.not_eq_true',decide_eq_false_iff_not] at this
   have hi:∃ i,E.P.info? fd.type=some i:=by
    cases h:E.P.info? fd.type with
    | none=>exact absurd (by unfold Program.cellsOf;rw [h];rfl) this.2
    | some i=>exact ⟨i,rfl⟩
   obtain ⟨i,hi⟩:=hi
   exact ⟨fs,fd,i,hu,hf,hi,this.2⟩
  ·cases this
 ·cases this
theorem steady_fieldAt {P:Program}{t f:Nat}{fs:Array Field}{fd:Field}{i:TypeInfo}(hu:P.underlying t=some (.struct fs))(hf:fs[f]?=some fd)(hi:P.info? fd.type=some i)(h0:P.cellsOf fd.type≠0)(v:Value):Steady P (Instr.fieldAt t v f):=by
 by_cases hv:∃ a,v=.pointer (some a)
 ·obtain ⟨a,rfl⟩:=hv
  refine .inl ⟨.pointer (some (a.add fd.offset)),fun w=>?_⟩
  unfold Instr.fieldAt
  simp only [Sem.run_bind,run_underlying hu,Result.andThen_ok,hf,Instr.sureAddr,Sem.run_pure,fieldPlace,run_sizeOf w hi,if_neg h0]
 ·refine .inr fun w=>?_
  unfold Instr.fieldAt
  simp only [Sem.run_bind,run_underlying hu,Result.andThen_ok,hf]
  have hs:Instr.sureAddr v=stuck "an address expected (no nilCheck in front?)":=by
   unfold Instr.sureAddr
   split
   ·exact absurd ⟨_,rfl⟩ hv
   ·rfl
  rw [hs]
  exact ⟨_,w,rfl⟩
theorem steady_part {P:Program}(t:TypeId)(cs:Array Value)(off:Nat):Steady P (part t cs off):=by
 unfold part isAgg
 refine Steady.bind (Steady.bind (steady_underlying t) fun d=>?_) fun i=>?_
 ·split <;> exact .pure _
 split
 ·exact Steady.bind (steady_sizeOf t) fun _=>.pure _
 ·split
  ·exact .pure _
  ·exact .halt _
theorem steady_followBlind {P:Program}:∀ (l:List FieldStep)(t:TypeId)(x:Option Value),Steady P (followBlind l t x)
 | [],t,x=>by unfold followBlind;exact .pure _
 | s :: rest,t,x=>by
  unfold followBlind
  refine Steady.bind (steady_underlying _) fun d=>?_
  split
  ·split
   ·split
    ·exact .pure _
    ·exact steady_followBlind rest _ _
    ·exact .halt _
    ·exact .pure _
    ·exact Steady.bind (steady_part _ _ _) fun y=>steady_followBlind rest _ _
    ·exact .halt _
    ·exact steady_followBlind rest _ _
   ·exact .halt _
  ·exact .halt _
theorem steady_nilAhead {P:Program}:∀ (n:Nat)(t:TypeId)(v:Value)(name:String),Steady P (nilAhead n t v name)
 | 0,_,_,_=>by unfold nilAhead;exact .pure _
 | n+1,t,v,name=>by
  unfold nilAhead
  refine Steady.bind (steady_typeInfo t) fun i=>?_
  split
  ·refine Steady.bind (steady_followBlind _ _ _) fun r=>?_
   split
   ·exact .pure _
   ·split
    ·exact steady_nilAhead n _ _ _
    ·exact .pure _
    ·exact .halt _
    ·exact .pure _
    ·exact .pure _
    ·refine Steady.bind (steady_underlying _) fun d=>?_
     split <;> exact .pure _
  ·exact .halt _
theorem halts_nil {P:Program} {α:Type}(w:World):∃ h w',(runtimePanic .nilDeref:Sem α).run P w=.halt h w':=⟨_,_,rfl⟩
theorem pure_run {P:Program}{o:Oper}(h:pureOp o=true)(hfa:FaOk P o) (ρ:Operand→Value):(∃ v,∀ w,(execOp ρ o).run P w=.ok (.value v) w)∨(∀ w,∃ x w',(execOp ρ o).run P w=.halt x w'):=by
 unfold pureOp at h
 split at h
 ·rename_i t ix hop
  unfold execOp
  rw [hop]
  refine steady_value ?_
  unfold Instr.extract
  split
  ·split
   ·exact .pure _
   ·exact .halt _
  ·exact .halt _
 ·rename_i x hop
  refine .inl ⟨ρ x,fun w=>?_⟩
  unfold execOp
  rw [hop];rfl
 ·rename_i x hop
  refine .inl ⟨ρ x,fun w=>?_⟩
  unfold execOp
  rw [hop];rfl
 ·rename_i t x lo hi mx hop
  unfold execOp
  rw [hop]
  exact steady_value (steady_sliceAt _ _ _ _ _)
 ·rename_i t x ix hop
  unfold execOp
  rw [hop]
  exact steady_value (steady_indexAt _ _ _)
 ·rename_i t x f hop
  obtain ⟨fs,fd,i,h1,h2,h3,h4⟩:=hfa t x f hop
  unfold execOp
  rw [hop]
  exact steady_value (steady_fieldAt h1 h2 h3 h4 _)
 ·rename_i x hop
  unfold execOp
  rw [hop]
  simp only
  generalize ρ x=v
  cases v with
  | pointer p =>
   cases p with
   | none=>exact .inr fun w=>halts_nil w
   | some a=>exact .inl ⟨_,fun w=>rfl⟩
  | nilIface=>exact .inr fun w=>halts_nil w
  | nilFunc=>exact .inr fun w=>halts_nil w
  | func f first captured =>
   cases f with
   | method name =>
    simp only
    cases hf:(first[0]?:Option Value) with
    | none=>exact .inl ⟨_,fun w=>rfl⟩
    | some u =>
     cases u with
     | nilIface=>exact .inr fun w=>halts_nil w
     | iface t u =>
      simp only
      rcases steady_nilAhead (P:=P) (P.types.size+Made.depth) t u name with ⟨r,h⟩|h
      ·by_cases hr:(r != some false)=true
       ·refine .inr fun w=>?_
        simp only [Sem.run_bind,run_program,Result.andThen_ok,h,hr,if_true]
        exact ⟨_,_,rfl⟩
       ·refine .inl ⟨.func (.method name) first captured,fun w=>?_⟩
        simp only [Sem.run_bind,run_program,Result.andThen_ok,h,hr,if_false,Bool.false_eq_true]
        rfl
      ·refine .inr fun w=>?_
       obtain ⟨x,w',h⟩:=h w
       refine ⟨x,w',?_⟩
       simp only [Sem.run_bind,run_program,Result.andThen_ok,h]
       rfl
     | _=>exact .inl ⟨_,fun w=>rfl⟩
   | _=>exact .inl ⟨_,fun w=>rfl⟩
  | _=>exact .inl ⟨_,fun w=>rfl⟩
 ·cases h

theorem pure_yields {P:Program}{ops:Array Oper}{Q:Exit→Act→World→Prop}(hQ:∀ e a w,Q e a w→e=.normal){j:Nat}{o:Oper}(hj:ops[j]?=some o)(hp:pureOp o=true)(hfa:FaOk P o){K:Act→World→Prop}{a:Act}{w:World}(h:wpOp P ops Q j K a w) :
  ∃ v,Yields P ops o v a∧K (a.put o.dst v) w:=by
 unfold wpOp at h
 rw [hj] at h
 simp only at h
 by_cases hw:Region.wanted o (yielded ops a.tmps)=true
 ·rw [if_pos hw] at h
  rcases h with h|⟨_,a',w',h⟩
  ·unfold Oper.wp at h
   rcases pure_run (P:=P) hp hfa a.eval with ⟨v,hv⟩|hv
   ·rw [hv w,Oper.upon_value] at h
    exact ⟨v,.inl ⟨hw,hv⟩,h⟩
   ·obtain ⟨x,w',hv⟩:=hv w
    rw [hv] at h
    cases x with
    | panic v=>cases hQ _ _ _ h
    | _=>exact h.elim
  ·cases hQ _ _ _ h
 ·rw [if_neg hw] at h
  exact ⟨Go.undef,.inr ⟨by simpa using hw,rfl⟩,h⟩

theorem Inv.preFreeze {a:Act}{w:World}:∀ (l:List Oper){s st:St},Inv E.P w0 F Mo st a w→Inv E.P w0 F Mo (X.preFreeze E l s st) a w
 | [],_,_,h=>h
 | o :: l,_,_,h=>Inv.preFreeze l (Inv.retireAll _ h)

theorem Rel.weaken {P:Program}{Mo:Nat→Prop} {β:Beta}{T T':List SV}{B:Obs}{vs:List Value}{w:World}(h:Rel P Mo β T B vs w)(hl:T'.length=T.length)(hs:∀ (i:Nat)(s:SV),T'[i]?=some s→s=.dead∨T[i]?=some s):Rel P Mo β T' B vs w:=by
 refine ⟨by rw [h.len];exact hl.symm,fun i s v hs' hv=>?_,h.ob,h.inj,h.lt,h.out,h.mo,h.gl⟩
 rcases hs i s hs' with h1|h1
 ·subst h1;exact .dead
 ·exact h.slot i s v h1 hv
theorem killL_len:∀ (L:List Nat)(T:List SV),(killL L T).length=T.length
 | [],_=>rfl
 | a :: L,T=>by show (killL L (T.set a .dead)).length=_;rw [killL_len L];simp
theorem killL_get:∀ (L:List Nat)(T:List SV)(i:Nat),(killL L T)[i]?=if i ∈ L then (T[i]?).map (fun _=>SV.dead) else T[i]?
 | [],T,i=>by
  show T[i]?=_
  rw [if_neg (by simp)]
 | a :: L,T,i=>by
  show (killL L (T.set a .dead))[i]?=_
  rw [killL_get L]
  by_cases h:i=a
  ·subst h
   have hr:i ∈ i :: L:=by simp
   rw [if_pos hr]
   have:((T.set i .dead)[i]?)=(T[i]?).map (fun _=>SV.dead):=by
    rw [List.getElem?_set_self']
    cases T[i]? <;> rfl
   rw [this]
   split
   ·cases T[i]? <;> rfl
   ·rfl
  ·rw [List.getElem?_set_ne (Ne.symm h)]
   by_cases hL:i ∈ L
   ·rw [if_pos hL,if_pos (by simp [hL])]
   ·rw [if_neg hL,if_neg (by simp [hL,h])]
theorem get_filter (d:Nat)(p:Nat→Bool):∀ os:Obs,Obs.get0 (os.filter fun x=>p x.1) d=if p d=true then Obs.get0 os d else none
 | []=>by split <;> rfl
 | (e,o) :: os=>by
  have ih:=get_filter d p os
  have hg:Obs.get0 ((e,o) :: os) d=bif e==d then some o else Obs.get0 os d:=rfl
  rw [hg]
  cases hp:p e with
  | true =>
   rw [List.filter_cons_of_pos (by simpa using hp)]
   have hg2:Obs.get0 ((e,o) :: os.filter fun x=>p x.1) d=bif e==d then some o else Obs.get0 (os.filter fun x=>p x.1) d:=rfl
   rw [hg2]
   by_cases he:e=d
   ·subst he;simp [hp]
   ·rw [show (e==d)=false by simpa using he,cond_false,cond_false];exact ih
  | false =>
   rw [List.filter_cons_of_neg (by simp [hp]),ih]
   by_cases he:e=d
   ·subst he;simp [hp]
   ·rw [show (e==d)=false by simpa using he,cond_false]
theorem foldr_ins_get (B:Obs)(d:Nat)(hd:d≠HL):∀ os:Obs,Obs.get0 (os.foldr pushA B) d=match Obs.get0 os d with|some ob=>some ob|none=>Obs.get0 B d
 | []=>rfl
 | (e,o) :: os=>by
  rw [List.foldr_cons]
  show Obs.get0 (bif e==HL then Obs.setH (Obs.hps (os.foldr pushA B)++[o.he]) (os.foldr pushA B) else Obs.ins e o (os.foldr pushA B)) d=match (bif e==d then some o else Obs.get0 os d) with|some ob=>some ob|none=>Obs.get0 B d
  by_cases heH:e=HL
  ·subst heH
   rw [beq_self_eq_true,cond_true,Obs.get0_setH,if_neg hd,show (HL==d)=false by simpa using Ne.symm hd,cond_false]
   exact foldr_ins_get B d hd os
  ·rw [show (e==HL)=false by simpa using heH,cond_false,Obs.get0_ins]
   by_cases h:e=d
   ·rw [if_pos h,show (e==d)=true by simpa using h];rfl
   ·rw [if_neg h,show (e==d)=false by simpa using h,cond_false];exact foldr_ins_get B d hd os
theorem foldr_heap (B:Obs):∀ os:Obs,(∀ x ∈ os,x.1≠HL→x.1 < HL)→((∀ ob,(HL,ob) ∉ os)→Obs.hps (os.foldr pushA B)=Obs.hps B)∧((∀ ob,(HL,ob) ∈ os→Obs.hasH B=true)→Obs.hasH (os.foldr pushA B)=Obs.hasH B) ∧
  (∀ ob,os.Pairwise (fun x y=>¬ (x.1=HL∧y.1=HL))→(HL,ob) ∈ os→Obs.hasH B=true→Obs.hps (os.foldr pushA B)=Obs.hps B++[ob.he])
 | [],_=>⟨fun _=>rfl,fun _=>rfl,fun ob _ h=>by simp at h⟩
 | (e,o) :: os,hlow=>by
  obtain ⟨i1,i2,i3⟩:=foldr_heap B os (fun x hx=>hlow x (List.mem_cons_of_mem _ hx))
  rw [List.foldr_cons]
  by_cases heH:e=HL
  ·subst heH
   have hp:pushA (HL,o) (os.foldr pushA B)=Obs.setH (Obs.hps (os.foldr pushA B)++[o.he]) (os.foldr pushA B):=by unfold pushA;rw [beq_self_eq_true,cond_true]
   rw [hp]
   refine ⟨fun h=>absurd (List.mem_cons_self) (h o),fun hhas=>?_,fun ob hpw hm hh=>?_⟩
   ·have h:=i2 fun ob h=>hhas ob (List.mem_cons_of_mem _ h)
    have hB:=hhas o List.mem_cons_self
    rw [hB] at h ⊢
    have:=hp_get h
    unfold Obs.hasH
    rw [Obs.get0_setH,if_pos rfl,this];rfl
   ·rw [List.pairwise_cons] at hpw
    have hno:∀ ob',(HL,ob') ∉ os:=fun ob' h=>hpw.1 _ h ⟨rfl,rfl⟩
    rcases List.mem_cons.1 hm with h|h
    ·injection h with _ h;subst h
     rw [setH_hps (by rw [i2 fun ob h=>absurd h (hno ob)];exact hh),i1 hno]
    ·exact absurd h (hno ob)
  ·have hel:e < HL:=hlow (e,o) List.mem_cons_self heH
   have hp:pushA (e,o) (os.foldr pushA B)=Obs.ins e o (os.foldr pushA B):=by unfold pushA;rw [show (e==HL)=false by simpa using heH,cond_false]
   rw [hp]
   refine ⟨fun h=>?_,fun hhas=>?_,fun ob hpw hm hh=>?_⟩
   ·rw [Obs.hps_ins hel];exact i1 fun ob hm=>h ob (List.mem_cons_of_mem _ hm)
   ·rw [hasH_ins hel];exact i2 fun ob h=>hhas ob (List.mem_cons_of_mem _ h)
   ·rw [List.pairwise_cons] at hpw
    rw [Obs.hps_ins hel]
    rcases List.mem_cons.1 hm with h|h
    ·injection h with h _;exact absurd h.symm heH
    ·exact i3 ob hpw.2 h hh
theorem get_append (d:Nat)(b:Obs):∀ a:Obs,Obs.get0 (a++b) d=match Obs.get0 a d with|some ob=>some ob|none=>Obs.get0 b d
 | []=>rfl
 | (e,o) :: a=>by
  show (bif e==d then some o else Obs.get0 (a++b) d)=match (bif e==d then some o else Obs.get0 a d) with|some ob=>some ob|none=>Obs.get0 b d
  cases e==d with
  | true=>rfl
  | false=>rw [cond_false,cond_false];exact get_append d b a
theorem get_not_mem {d:Nat}:∀ {a:Obs},Obs.get0 a d=none→∀ ob,(d,ob) ∉ a
 | [],_,ob,h=>by simp at h
 | (e,o) :: a,h,ob,hm=>by
  have h:(bif e==d then some o else Obs.get0 a d)=none:=h
  cases he:e==d with
  | true=>rw [he] at h;cases h
  | false =>
   rw [he,cond_false] at h
   rcases List.mem_cons.1 hm with hm|hm
   ·injection hm with h1 _
    subst h1
    simp at he
   ·exact get_not_mem h ob hm
theorem last_laid (d:Nat):∀ (n:Nat)(tr:List (SV × Obs)),tr.length=n→(∀ ob,Obs.get0 (((tr.map (·.2)).reverse).flatten) d=some ob→∃ (k:Nat)(x:SV × Obs),tr[k]?=some x∧(d,ob) ∈ x.2∧∀ (k':Nat)(x':SV × Obs),k < k'→tr[k']?=some x'→∀ ob',(d,ob') ∉ x'.2) ∧
  (Obs.get0 (((tr.map (·.2)).reverse).flatten) d=none→∀ (k:Nat)(x:SV × Obs),tr[k]?=some x→∀ ob,(d,ob) ∉ x.2)
 | 0,tr,hn=>by
  have:tr=[]:=List.length_eq_zero_iff.1 hn
  subst this
  exact ⟨fun ob h=>(by cases h),fun _ k x h=>(by simp at h)⟩
 | n+1,tr,hn=>by
  obtain ⟨tr',y,rfl⟩:∃ tr' y,tr=tr'++[y]:=by
   rcases List.eq_nil_or_concat tr with h|⟨l,b,h⟩
   ·subst h;simp at hn
   ·exact ⟨l,b,by rw [h,List.concat_eq_append]⟩
  have hn':tr'.length=n:=by simpa using hn
  obtain ⟨i1,i2⟩:=last_laid d n tr' hn'
  have e:(((tr'++[y]).map (·.2)).reverse).flatten=y.2++(((tr'.map (·.2)).reverse).flatten):=by simp
  rw [e,get_append]
  have at':∀ (k:Nat)(x:SV × Obs),(tr'++[y])[k]?=some x→(k < tr'.length∧tr'[k]?=some x)∨(k=tr'.length∧x=y):=by
   intro k x h
   rcases Nat.lt_trichotomy k tr'.length with hk|hk|hk
   ·rw [List.getElem?_append_left hk] at h;exact .inl ⟨hk,h⟩
   ·subst hk
    rw [List.getElem?_append_right (Nat.le_refl _)] at h
    simp at h
    exact .inr ⟨rfl,h.symm⟩
   ·rw [List.getElem?_eq_none (by simp;omega)] at h;cases h
  cases hy:Obs.get0 y.2 d with
  | some ob0 =>
   refine ⟨fun ob h=>?_,fun h=>(by cases h)⟩
   injection h with h
   subst h
   refine ⟨tr'.length,y,by simp,obs_mem hy,fun k' x' hk h=>?_⟩
   rcases at' k' x' h with ⟨h1,_⟩|⟨h1,_⟩ <;> omega
  | none =>
   refine ⟨fun ob h=>?_,fun h k x hk=>?_⟩
   ·obtain ⟨k,x,h1,h2,h3⟩:=i1 ob h
    have hkl:=get_lt h1
    refine ⟨k,x,by rw [List.getElem?_append_left hkl];exact h1,h2,fun k' x' hk h=>?_⟩
    rcases at' k' x' h with ⟨_,h4⟩|⟨_,rfl⟩
    ·exact h3 k' x' hk h4
    ·exact get_not_mem hy
   ·rcases at' k x hk with ⟨_,h4⟩|⟨_,rfl⟩
    ·exact i2 h k x h4
    ·exact get_not_mem hy

theorem wpOp_Q {P:Program}{ops:Array Oper}{Q Q':Exit→Act→World→Prop}(hQ':∀ e a w,Q' e a w→e=.normal){i:Nat}{K:Act→World→Prop}{a:Act}{w:World}(h:wpOp P ops Q' i K a w):wpOp P ops Q i K a w:=by
 unfold wpOp at *
 split
 ·exact by simpa [*] using h
 ·rename_i o ho
  simp only [ho] at h
  split
  ·rename_i hw
   simp only [hw,if_true] at h
   rcases h with h|⟨_,a',w',h⟩
   ·left
    unfold Oper.wp at *
    generalize (execOp a.eval o).run P w=r at *
    cases r with
    | ok n w' =>
     cases n <;> simp only [Oper.upon] at h ⊢ <;>
      first
       | exact h
       | exact Calls.mono h (fun e w'' he=>by
         cases e with
         | returned v=>exact he
         | panicked c=>cases hQ' _ _ _ he
         | outgrown=>obtain ⟨_,_,he⟩:=he;cases hQ' _ _ _ he)
    | halt x w' =>
     cases x <;> simp only [Oper.upon] at h ⊢ <;> first|exact h|cases hQ' _ _ _ h
   ·cases hQ' _ _ _ h
  ·rename_i hw;simp only [hw] at h;exact h
def setN (val:Nat→SV)(D:List Nat)(T:List SV):List SV:=D.foldl (fun T i=>T.set i (val i)) T
theorem setN_get (val:Nat→SV):∀ (D:List Nat)(T:List SV)(j:Nat),(setN val D T)[j]?=if j ∈ D then (T[j]?).map (fun _=>val j) else T[j]?
 | [],T,j=>by simp [setN]
 | i :: D,T,j=>by
  show (setN val D (T.set i (val i)))[j]?=_
  rw [setN_get val D]
  by_cases hij:i=j
  ·subst hij
   have h1:(T.set i (val i))[i]?=(T[i]?).map (fun _=>val i):=by
    rw [List.getElem?_set]
    by_cases hl:i < T.length
    ·simp [hl]
    ·simp [hl]
   rw [h1]
   by_cases h:i ∈ D
   ·simp only [h,if_true,List.mem_cons,true_or]
    cases T[i]? <;> rfl
   ·simp [h]
  ·rw [List.getElem?_set_ne hij]
   simp [List.mem_cons,Ne.symm hij]
theorem any_head {P:Program}{ops:Array Oper}{Q:Exit→Act→World→Prop}(hQn:∀ e a w,Q e a w→e=.normal)(hlt:∀ (j:Nat)(o:Oper),ops[j]?=some o→∀ e ∈ o.after,Region.binds .any e=true→e.on < j)
  {h:Nat}(hh:∀ j,j < h→∀ i,j < i→i < ops.size→Bef ops i j) :
  ∀ (c k n:Nat){listed:Array Bool}{a:Act}{w:World},k+c=h→h≤ops.size→listed.size=ops.size→Closed ops listed→(∀ j,j < ops.size→listed.getD j false=decide (j < k)) →
   wpOps P ops (fun e a w=>e=.normal∧∀ listed:Array Bool,listed.size=ops.size→Closed ops listed→(∀ j,j < ops.size→listed.getD j false=decide (j < h))→wpAny P .any ops Q n listed a w) (List.range' k c) a w→wpAny P .any ops Q (c+n) listed a w
 | 0,k,n,listed,a,w,hk,hle,hs,hc,hl,hw=>by
  rw [Nat.zero_add]
  exact hw.2 listed hs hc (by intro j hj;rw [hl j hj,show k=h by omega])
 | c+1,k,n,listed,a,w,hk,hle,hs,hc,hl,hw=>by
  have hkl:k < ops.size:=by omega
  have hko:ops[k]?=some ops[k]:=Array.getElem?_eq_getElem hkl
  have getb:∀ i (b:Bool),i < ops.size→listed.getD i b=decide (i < k):=by
   intro i b hi
   rw [←hl i hi,Array.getD_eq_getD_getElem?,Array.getD_eq_getD_getElem?,Array.getElem?_eq_getElem (by omega)];rfl
  have hready:k ∈ Region.ready .any ops listed:=mem_ready.2 ⟨by rw [getb k true hkl];simp,_,hko,fun e he hb=>by
   have:=hlt k _ hko e he hb
   rw [hl _ (by omega)];simpa using this⟩
  rw [show c+1+n=(c+n)+1 by omega]
  refine ⟨(fun h0=>by rw [h0] at hready;cases hready),fun i hi=>?_⟩
  obtain ⟨h1,o,ho,h2⟩:=mem_ready.1 hi
  have hil:=(Array.getElem?_eq_some_iff.1 ho).1
  rw [getb i true hil] at h1
  have hki:k≤i:=by simpa using h1
  have hik:i=k:=by
   rcases Nat.lt_or_eq_of_le hki with hgt|he
   ·have:=closed_bef hc (hh k (by omega) i hgt hil) (fun o' ho' e he hb=>h2 e (by rw [ho] at ho';injection ho' with ho';rw [ho'];exact he) hb)
    rw [hl k hkl] at this;simp at this
   ·exact he.symm
  subst hik
  rw [List.range'_succ,wpOps_cons] at hw
  refine wpOp_Q (fun e a w h=>h.1) (wpOp_mono (fun a w hw=>?_) hw)
  refine any_head hQn hlt hh c (i+1) n (by omega) hle (by simpa using hs) (closed_set hc (by omega) fun o' ho' e he hb=>h2 e (by rw [ho] at ho';injection ho' with ho';rw [ho'];exact he) hb) (fun j hj=>?_) hw
  rw [getD_set _ _ _ _ (by omega)]
  by_cases hij:i=j
  ·subst hij;simp
  ·rw [if_neg hij,hl j hj]
   by_cases hj:j < i
   ·rw [decide_eq_true hj,decide_eq_true (by omega)]
   ·rw [decide_eq_false hj,decide_eq_false (by omega)]

theorem least {p:Nat→Prop}(h:∃ j,p j):∃ k,p k∧∀ j,j < k→¬ p j:=by
 obtain ⟨n,hn⟩:=h
 induction n using Nat.strongRecOn with
 | ind n ih =>
  by_cases h:∃ j,j < n∧p j
  ·obtain ⟨j,h1,h2⟩:=h
   exact ih j h1 h2
  ·exact ⟨n,hn,fun j hj hp=>h ⟨j,hj,hp⟩⟩
abbrev hok':=@X.hok
theorem foldr_pref (B:Obs):∀ os:Obs,(∀ x ∈ os,x.1≠HL→x.1 < HL)→(∀ x ∈ os,x.1=HL→Obs.hasH B=true)→∃ l,Obs.hps (os.foldr pushA B)=Obs.hps B++l
 | [],_,_=>⟨[],by simp⟩
 | (e,o) :: os,h1,h2=>by
  obtain ⟨l,hl⟩:=foldr_pref B os (fun x hx=>h1 x (List.mem_cons_of_mem _ hx)) (fun x hx=>h2 x (List.mem_cons_of_mem _ hx))
  rw [List.foldr_cons]
  by_cases he:e=HL
  ·subst he
   have hB:=h2 (HL,o) List.mem_cons_self rfl
   have hhas:=(foldr_heap B os (fun x hx=>h1 x (List.mem_cons_of_mem _ hx))).2.1 fun _ _=>hB
   have hp:pushA (HL,o) (os.foldr pushA B)=Obs.setH (Obs.hps (os.foldr pushA B)++[o.he]) (os.foldr pushA B):=by unfold pushA;rw [beq_self_eq_true,cond_true]
   rw [hp,setH_hps (by rw [hhas];exact hB),hl]
   exact ⟨l++[o.he],by simp⟩
  ·have hp:pushA (e,o) (os.foldr pushA B)=Obs.ins e o (os.foldr pushA B):=by unfold pushA;rw [show (e==HL)=false by simpa using he,cond_false]
   rw [hp,Obs.hps_ins (h1 (e,o) List.mem_cons_self he)]
   exact ⟨l,hl⟩
end
end Go.X
set_option linter.unusedVariables false
set_option linter.unusedSimpArgs false
namespace Go.X
open Go
theorem PV.beq_eq (p:PV):∀ q,PV.beq p q=true→p=q:=by
 apply PV.rec (motive_1:=fun p=>∀ q,PV.beq p q=true→p=q) (motive_2:=fun l=>∀ m,PV.beqs l m=true→l=m)
 case agg=>intro l ih q h;cases q <;> simp [PV.beq] at h;rw [ih _ h]
 case list=>intro l ih q h;cases q <;> simp [PV.beq] at h;rw [ih _ h]
 case ref=>intro l ih q h;cases q <;> simp [PV.beq] at h;rw [ih _ h]
 case nil =>
  first
  | (intro q h;cases q <;> simp [PV.beq] at h;rfl)
  | (intro m h;cases m <;> simp [PV.beqs] at h;rfl)
 case cons=>intro a l h1 h2 m h;cases m <;> simp [PV.beqs] at h;rw [h1 _ h.1,h2 _ h.2]
 all_goals (intros;rename_i q h;cases q <;> simp [PV.beq,PV.beqs] at h <;> simp_all)
theorem stpEq_eq {a b:Stp}(h:stpEq a b=true):a=b:=by
 cases a <;> cases b <;> simp [stpEq] at h <;> rw [h]
theorem stpsEq_eq:∀ {l m:List Stp},stpsEq l m=true→l=m
 | [],[],_=>rfl
 | [],_ :: _,h=>by simp [stpsEq] at h
 | _ :: _,[],h=>by simp [stpsEq] at h
 | a :: l,b :: m,h=>by
  simp only [stpsEq,Bool.and_eq_true] at h
  rw [stpEq_eq h.1,stpsEq_eq h.2]
theorem svEq_eq {a b:SV}(h:svEq a b=true):a=b:=by
 cases a <;> cases b <;> simp [svEq] at h
 case int=>obtain ⟨rfl,rfl⟩:=h;rfl
 case bool=>subst h;rfl
 case val=>obtain ⟨rfl,h⟩:=h;rw [PV.beq_eq _ _ h]
 case hval=>obtain ⟨rfl,h⟩:=h;rw [PV.beq_eq _ _ h]
 case fro=>obtain ⟨rfl,h⟩:=h;rw [PV.beq_eq _ _ h]
 case own=>obtain ⟨rfl,rfl⟩:=h;rfl
 case ptr=>obtain ⟨rfl,h⟩:=h;rw [stpsEq_eq h]
 case hptr=>obtain ⟨rfl,rfl,h⟩:=h;rw [stpsEq_eq h]
 case nils=>rfl
section
variable {E : Env} {w0 : World} {F : Foot} {Mo : Nat → Prop}

theorem get_hide {T:List SV}{B:Obs}{U:List Nat}{x:Operand}(hx:∀ i,x=.tmp i→i ∉ U)(P:Program)(t:TypeId):({ T:=killL U T,B:=B }:St).get P t x=({ T:=T,B:=B }:St).get P t x:=by
 cases x with
 | tmp i =>
  show (killL U T).getD i .dead=T.getD i .dead
  refine getD_of_get ?_
  rw [killL_get,if_neg (hx i rfl)]
 | _=>rfl
theorem Inv.slots {T T':List SV}{B:Obs}{a:Act}{w:World}(hI:Inv E.P w0 F Mo { T:=T,B:=B } a w)(hl:T'.length=T.length)(hs:∀ (i:Nat)(s:SV),T'[i]?=some s→s=.dead∨T[i]?=some s):Inv E.P w0 F Mo { T:=T',B:=B } a w:=by
 obtain ⟨hd,β,hR,hk⟩:=hI
 exact ⟨hd,β,hR.weaken hl hs,hk⟩
theorem wpOp_of {P:Program}{ops:Array Oper}{Q:Exit→Act→World→Prop}{j:Nat}{o:Oper}{K:Act→World→Prop}{a:Act}{w:World}(hj:ops[j]?=some o)(hg:o.guard=none)(h:o.wp P a w K Q):wpOp P ops Q j K a w:=by
 unfold wpOp
 rw [hj]
 simp only
 have hw:Region.wanted o (yielded ops a.tmps)=true:=by unfold Region.wanted;rw [hg]
 rw [if_pos hw]
 exact .inl h
theorem q3_free {o:Oper}(h:isQ3 o=true)(st:St):Free E o st:=by
 obtain ⟨_,_,h⟩:=isQ3_of h
 rcases h with ⟨t,a,h⟩|⟨t,a,f,h⟩|⟨t,a,i,h⟩
 ·exact ⟨fun g=>(by rw [h] at g;cases g),fun t' g=>(by rw [h] at g;cases g)⟩
 ·exact ⟨fun g=>(by rw [h] at g;cases g),fun t' g=>(by rw [h] at g;cases g)⟩
 ·exact ⟨fun g=>(by rw [h] at g;cases g),fun t' g=>(by rw [h] at g;cases g)⟩
theorem q3_none (hp:Par E.C){o:Oper}(hq:isQ3 o=true){st:St}{s:SV}{os:Obs}(h:opQ E o st pairK=some ([s],os)):os=[]:=by
 obtain ⟨_,_,hk⟩:=isQ3_of hq
 have hpo:hpOp E o=false:=by
  unfold hpOp
  rcases hk with ⟨t,a,h⟩|⟨t,a,f,h⟩|⟨t,a,i,h⟩ <;> rw [h] <;> simp
 unfold opQ at h
 rw [hpo,cond_false] at h
 have e:opQ0 E o st pairK=opQ0 E o st (fun s _=>pairK s []):=by
  unfold opQ0
  rcases hk with ⟨t,a,hop⟩|⟨t,a,f,hop⟩|⟨t,a,i,hop⟩ <;> rw [hop]
 rw [opQ0_param E hp o st (fun s _=>pairK s []),h] at e
 have e:some ([s],os)=(some ([s],[]):Option Out):=e
 injection e with e
 injection e
theorem x_step (hL:laidOutB E.P=true)(hC:OracleOk E.P E.C){ops:Array Oper}{j:Nat}{o:Oper}(hj:ops[j]?=some o)(hq:isQ3 o=true){d:Nat}(hd:o.dst=some d)(hlo:d < lowB){T:List SV}{B:Obs}{U U':List Nat}{v:SV}
  (hv:opQ E o { T:=T,B:=B } pairK=some ([v],[]))(hU:∀ i ∈ o.looksAt ops,i ∉ U)(hT:∀ s,T[d]?=some s→s=v){a:Act}{w:World}(hI:Inv E.P w0 F Mo { T:=killL U T,B:=B } a w)(hU':∀ i,i ∈ U→i=d∨i ∈ U')
  {Q:Exit→Act→World→Prop}{next:Act→World→Prop}(hn:∀ a' w',Inv E.P w0 F Mo { T:=killL U' T,B:=B } a' w'→next a' w'):wpOp E.P ops Q j next a w:=by
 obtain ⟨hdef,β,hR,hk⟩:=hI
 have hops:∀ x ∈ o.op.operands,∀ P t,({ T:=T,B:=B }:St).get P t x=({ T:=killL U T,B:=B }:St).get P t x:=fun x hx P t=>(get_hide (fun i e=>hU i (looksAt_op (e ▸ hx))) P t).symm
 have h:=opQ_congr (E:=E) (st:={ T:=T,B:=B }) (st':={ T:=killL U T,B:=B }) (fun _ _ _ h=>h) ⟨[],by simp⟩ rfl (fun _ _=>rfl) hops hv
 obtain ⟨s,os,h1,h2⟩:=(opQ_sound hL hC hR hk (by rw [hd];exact hlo) (q3_free hq _) h).post hR hk
 unfold pairK at h1
 injection h1 with h1
 injection h1 with h1 h3
 injection h1 with h1 _
 subst h1;subst h3
 refine wpOp_of hj (isQ3_of hq).1 (h2 next Q fun v' w' hp=>hn _ _ ?_)
 have:=Inv.put hdef hp o.dst
 rw [hd] at this ⊢
 refine Inv.slots (T:=(killL U T).set d s) (B:=B) this (by simp [killL_len]) fun i x hx=>?_
 rw [killL_get] at hx
 split at hx
 ·cases hg:T[i]? with
  | none=>rw [hg] at hx;cases hx
  | some y=>rw [hg] at hx;injection hx with hx;exact .inl hx.symm
 ·rename_i hi
  rw [List.getElem?_set]
  by_cases e:d=i
  ·subst e
   have hlt:d < (killL U T).length:=by rw [killL_len];exact (List.getElem?_eq_some_iff.1 hx).1
   rw [if_pos rfl,if_pos hlt,hT x hx]
   exact .inr rfl
  ·rw [if_neg e,killL_get,if_neg (fun h=>(hU' i h).elim (fun h=>e h.symm) hi)]
   exact .inr hx

theorem opQ_run (hp:Par E.C){o:Oper}{st:St}{K:SV→Obs→Option Out}{r:Out}(h:opQ E o st K=some r):∃ s os,opQ E o st pairK=some ([s],os)∧K s os=some r:=by
 rw [opQ_param E hp] at h
 cases hq:opQ E o st pairK with
 | none=>rw [hq] at h;cases h
 | some u =>
  rw [hq] at h
  obtain ⟨l,os⟩:=u
  match l,h with
  | [s],h=>exact ⟨s,os,rfl,h⟩
  | [],h=>cases h
  | _ :: _ :: _,h=>cases h
theorem reEv_run (hp:Par E.C){ops:Array Oper}{K:St→Option Out}{r:Out}{st:St}:∀ (X:List Nat),reEv E ops X K st=some r →
   K st=some r∧∀ x ∈ X,∃ o v,ops[x]?=some o∧opQ E o st pairK=some ([v],[])∧v=st.T.getD (o.dst.getD 0) .dead
 | [],h=>⟨h,fun x hx=>by cases hx⟩
 | j :: X,h=>by
  unfold reEv at h
  cases ho:ops[j]? with
  | none=>rw [ho] at h;cases h
  | some o =>
   rw [ho] at h
   simp only at h
   obtain ⟨v,os,h1,h2⟩:=opQ_run hp h
   obtain ⟨h3,h4⟩:=cond_some h2
   rw [Bool.and_eq_true] at h3
   have hos:os=[]:=by simpa using h3.1
   rw [hos] at h1
   obtain ⟨g1,g2⟩:=reEv_run hp X h4
   refine ⟨g1,fun x hx=>?_⟩
   rcases List.mem_cons.1 hx with rfl|hx
   ·exact ⟨o,v,ho,h1,svEq_eq h3.2⟩
   ·exact g2 x hx

/-! what a slot that is given up does to an operation that does not look at it -/
theorem drops_hide (d:Nat)(p:PV)(U:List Nat)(T:List SV):SV.drops d p (killL U T)=killL U (SV.drops d p T):=by
 apply List.ext_getElem?
 intro i
 rw [drops_get,killL_get,killL_get,drops_get]
 split
 ·cases T[i]? <;> rfl
 ·rfl
theorem retire_hide (d:Nat)(U:List Nat)(T:List SV)(B:Obs):({ T:=killL U T,B:=B }:St).retire d={ T:=killL U (({ T:=T,B:=B }:St).retire d).T,B:=(({ T:=T,B:=B }:St).retire d).B }:=by
 unfold St.retire
 cases d.blt HL with
 | false=>rfl
 | true =>
  simp only [Bool.not_true,cond_false]
  cases Obs.get B d with
  | none=>rfl
  | some o=>simp only [drops_hide]
theorem retireAll_hide (U:List Nat):∀ (l:List Nat)(T:List SV)(B:Obs),retireAll l { T:=killL U T,B:=B }={ T:=killL U (retireAll l { T:=T,B:=B }).T,B:=(retireAll l { T:=T,B:=B }).B }
 | [],T,B=>rfl
 | d :: l,T,B=>by
  unfold retireAll
  rw [retire_hide,retireAll_hide U l]
theorem lay_hide (U:List Nat):∀ (os:Obs)(T:List SV)(B:Obs),({ T:=killL U T,B:=B }:St).lay os={ T:=killL U (({ T:=T,B:=B }:St).lay os).T,B:=(({ T:=T,B:=B }:St).lay os).B }
 | [],T,B=>rfl
 | (d,o) :: l,T,B=>by
  unfold St.lay
  cases d==HL with
  | true=>exact lay_hide U l T _
  | false =>
   simp only [cond_false]
   rw [retire_hide]
   exact lay_hide U l _ _
theorem handMap_T (f:FuncId)(T T':List SV)(B:Obs):∀ (i:Nat)(l:List SV),handMap E { T:=T,B:=B } f i l=handMap E { T:=T',B:=B } f i l
 | _,[]=>rfl
 | i,s :: l=>by
  unfold handMap
  rw [handMap_T f T T' B (i+1) l]
  cases s <;> rfl
theorem handS_T (m:List (Nat × Nat))(f:FuncId)(T T':List SV)(B:Obs)(t:TypeId)(i:Nat)(s:SV):handS E { T:=T,B:=B } m f t i s=handS E { T:=T',B:=B } m f t i s:=by
 cases s <;> rfl
theorem handAll_T (m:List (Nat × Nat))(f:FuncId)(T T':List SV)(B:Obs):∀ (i:Nat)(ts:List TypeId)(l:List SV),handAll E { T:=T,B:=B } m f i ts l=handAll E { T:=T',B:=B } m f i ts l
 | _,[],[]=>rfl
 | _,[],_ :: _=>rfl
 | _,_ :: _,[]=>rfl
 | i,t :: ts,s :: l=>by
  unfold handAll
  rw [handAll_T m f T T' B (i+1) ts l,handS_T m f T T' B]
theorem handObs_T (m:List (Nat × Nat))(T T':List SV)(B:Obs):∀ (l:List (Nat × Nat)),handObs { T:=T,B:=B } m l=handObs { T:=T',B:=B } m l
 | []=>rfl
 | (d,n) :: l=>by
  unfold handObs
  rw [handObs_T m T T' B l]
theorem boxKept_T (T T':List SV)(B B':Obs):∀ (l:List (Nat × Nat)),boxKept { T:=T,B:=B } B' l=boxKept { T:=T',B:=B } B' l
 | []=>rfl
 | (d,n) :: l=>by
  unfold boxKept
  rw [boxKept_T T T' B B' l]
def refill (U:List Nat)(S:List SV)(s:St):St:={ T:=setN (fun i=>S.getD i .dead) U s.T,B:=s.B }
theorem refill_hide (U:List Nat)(S:List SV)(s:St):killL U (refill U S s).T=killL U s.T:=by
 apply List.ext_getElem?
 intro i
 rw [killL_get,killL_get]
 split
 ·rename_i h
  show ((setN _ U s.T)[i]?).map _=_
  rw [setN_get,if_pos h]
  cases s.T[i]? <;> rfl
 ·rename_i h
  show (setN _ U s.T)[i]?=_
  rw [setN_get,if_neg h]
theorem refill_put {U:List Nat}{S:List SV}{B:Obs}{d:Option Nat}(hd:∀ i,d=some i→i ∉ U)(x:SV):refill U S (({ T:=killL U S,B:=B }:St).put d x)=({ T:=S,B:=B }:St).put d x:=by
 have key:∀ T' T'':List SV,(∀ i,i ∉ U→T'[i]?=T''[i]?)→(∀ i,i ∈ U→T''[i]?=S[i]?)→T'.length=S.length→T''.length=S.length→setN (fun i=>S.getD i .dead) U T'=T'':=by
  intro T' T'' h1 h2 h3 h4
  apply List.ext_getElem?
  intro i
  rw [setN_get]
  split
  ·rename_i hi
   rw [h2 i hi]
   by_cases hlt:i < S.length
   ·rw [List.getElem?_eq_getElem (show i < T'.length by omega),List.getElem?_eq_getElem hlt]
    simp [List.getD,hlt]
   ·rw [List.getElem?_eq_none (show T'.length≤i by omega),List.getElem?_eq_none (show S.length≤i by omega)];rfl
  ·rename_i hi
   exact h1 i hi
 cases d with
 | none =>
  unfold refill
  simp only [St.put]
  rw [key _ S (fun i hi=>by rw [killL_get,if_neg hi]) (fun _ _=>rfl) (killL_len _ _) rfl]
 | some d =>
  have hdU:=hd d rfl
  unfold refill
  simp only [St.put,St.setT]
  rw [key _ (S.set d x) (fun i hi=>?_) (fun i hi=>?_) (by simp [killL_len]) (by simp)]
  ·rw [List.getElem?_set,List.getElem?_set,killL_get,if_neg hi,killL_len]
  ·rw [List.getElem?_set_ne (fun e=>by subst e;exact hdU hi)]
theorem rens_hide (φ:Nat→Option Nat)(U:List Nat)(T:List SV):SV.rens φ (killL U T)=killL U (SV.rens φ T):=by
 apply List.ext_getElem?
 intro i
 rw [SV.rens_get,killL_get,killL_get,SV.rens_get]
 split
 ·cases T[i]? <;> rfl
 ·rfl
theorem kills_hide (d:Nat)(U:List Nat)(T:List SV):SV.kills d (killL U T)=killL U (SV.kills d T):=by
 apply List.ext_getElem?
 intro i
 rw [SV.kills_get,killL_get,killL_get,SV.kills_get]
 split
 ·cases T[i]? <;> rfl
 ·rfl
theorem elems_T (P:Program)(T T':List SV)(B:Obs)(e:TypeId)(s:SV):({ T:=T,B:=B }:St).elems P e s=({ T:=T',B:=B }:St).elems P e s:=by
 cases s <;> rfl
theorem appended_T (P:Program)(T T':List SV)(B:Obs)(e xt:TypeId)(x:SV):appended P { T:=T,B:=B } e xt x=appended P { T:=T',B:=B } e xt x:=by
 unfold appended
 split
 ·rfl
 ·rw [elems_T P T T' B]
 ·rfl
theorem opE_appE {o:Oper}{args:Array Operand}{ts:Array TypeId}(hop:o.op=.call { callee:=.builtin .append,args:=args,argTypes:=ts }){U:List Nat}(hd:∀ i,o.dst=some i→i ∉ U){T1:List SV}{B1:Obs}
  (hm:∀ t,args.toList.map (({ T:=killL U T1,B:=B1 }:St).get E.P t)=args.toList.map (({ T:=T1,B:=B1 }:St).get E.P t)){K:St→Option Out}{r:Out}(h:opE E o { T:=T1,B:=B1 } K=some r) :
  ∃ S,opE E o { T:=killL U T1,B:=B1 } (fun s=>K (refill U S s))=some r:=by
 have hh:hpEff E o { T:=killL U T1,B:=B1 }=hpEff E o { T:=T1,B:=B1 }:=by
  unfold hpEff
  rw [hop]
  simp only
  have:=hm o.type
  cases ha:args.toList with
  | nil=>rfl
  | cons x l =>
   rw [ha] at this
   simp only [List.map_cons,List.cons.injEq] at this
   simp only [this.1]
 unfold opE at h ⊢
 rw [hh]
 cases hc:hpEff E o { T:=T1,B:=B1 } with
 | true =>
  rw [hc,cond_true] at h
  simp only [cond_true]
  obtain ⟨hH,h⟩:=cond_some h
  refine ⟨T1,?_⟩
  refine Eq.trans (congrArg (fun x=>bif _ then x else none) (?_:_=opEH E o { T:=T1,B:=B1 } K)) (by rw [show Obs.hasH ({ T:=killL U T1,B:=B1 }:St).B=true from hH];exact h)
  unfold opEH
  rw [hop]
  simp only [hm]
  split
  ·split
   ·refine congrArg (fun x=>bif _ then x else none) ?_
    rw [refill_put hd]
   ·rfl
  ·rfl
 | false =>
  rw [hc,cond_false] at h
  simp only [cond_false]
  unfold opE0 at h ⊢
  rw [hop] at h
  simp only at h
  rw [hop]
  simp only [hm,appended_T E.P (killL U T1) T1 B1]
  split at h
  ·rename_i s x e h1 h2
   split at h
   ·cases h
   ·cases h
   ·rename_i m z hm1 hz1
    obtain ⟨hb,h⟩:=cond_none h
    rw [hb]
    simp only [cond_false]
    split at h
    ·obtain ⟨hr,h⟩:=cond_some h
     refine ⟨(({ T:=T1,B:=B1 }:St).lay [(o.dst.getD 0,.row e m)]).T,?_⟩
     rw [hr]
     simp only [cond_true]
     rw [lay_hide,refill_put hd]
     exact h
    ·rename_i u d _
     split at h
     ·rename_i e' l hg
      obtain ⟨hr,h⟩:=cond_some h
      refine ⟨SV.kills d T1,?_⟩
      simp only [hr,cond_true]
      rw [kills_hide,refill_put hd]
      exact h
     ·cases h
    ·cases h
  ·cases h
theorem hideY (hp:Par E.C){ops:Array Oper}{o:Oper}(hy:isY1 o=true){T:List SV}{B:Obs}{U:List Nat}(hU:∀ i ∈ o.looksAt ops,i ∉ U)(hd:∀ i,o.dst=some i→i ∉ U){K:St→Option Out}{r:Out}(h:opX E o { T:=T,B:=B } K=some r) :
  ∃ S,opX E o { T:=killL U T,B:=B } (fun s=>K (refill U S s))=some r:=by
 obtain ⟨_,_,hk⟩:=isY1_of hy
 have hget:∀ (T:List SV)(B:Obs) x,x ∈ o.op.operands→∀ P t,({ T:=killL U T,B:=B }:St).get P t x=({ T:=T,B:=B }:St).get P t x:=fun T B x hx P t=>get_hide (fun i e=>hU i (looksAt_op (e ▸ hx))) P t
 have hcall:∀ {c:Callee}{args:Array Operand}{ts:Array TypeId},o.op=.call { callee:=c,args:=args,argTypes:=ts }→∀ (T:List SV)(B:Obs) t,args.toList.map (({ T:=killL U T,B:=B }:St).get E.P t)=args.toList.map (({ T:=T,B:=B }:St).get E.P t):=fun {c args ts} hop T B t =>
  List.map_congr_left fun x hx=>hget T B x (by rw [hop];simp only [Op.operands,Call.operands];exact Array.mem_append_right _ (by simpa using hx)) E.P t
 have hparts:∀ {ps:Array (Nat × Operand)},(∀ x ∈ ps,x.2 ∈ o.op.operands)→∀ (T:List SV)(B:Obs),(ps.toList.flatMap fun x=>ownsOf (({ T:=killL U T,B:=B }:St).get E.P 0 x.2))=ps.toList.flatMap fun x=>ownsOf (({ T:=T,B:=B }:St).get E.P 0 x.2):=fun {ps} hps T B=>by
  rw [List.flatMap_def,List.flatMap_def]
  congr 1
  refine List.map_congr_left fun x hx=>?_
  rw [hget T B x.2 (hps x (by simpa using hx)) E.P 0]
 have hst:∃ T1 B1,retireOp E o (freezeOp E o { T:=T,B:=B })={ T:=T1,B:=B1 }∧retireOp E o (freezeOp E o { T:=killL U T,B:=B })={ T:=killL U T1,B:=B1 }:=by
  rcases hk with ⟨f,args,ts,hop⟩|⟨t,n,ps,hop⟩|⟨t,ps,hop⟩|⟨args,ts,hop⟩
  ·have hfr:∃ T1 B1,freezeOp E o { T:=T,B:=B }={ T:=T1,B:=B1 }∧freezeOp E o { T:=killL U T,B:=B }={ T:=killL U T1,B:=B1 }:=by
    unfold freezeOp
    rw [hop]
    simp only [hcall hop T B 0]
    generalize (Option.any _ _&&_)=c
    cases c with
    | true=>exact ⟨_,_,rfl,rfl⟩
    | false=>exact ⟨_,_,rfl,retireAll_hide U _ T B⟩
   obtain ⟨T1,B1,e1,e2⟩:=hfr
   rw [e1,e2]
   unfold retireOp
   rw [hop]
   simp only [hcall hop T1 B1 0]
   rw [handMap_T f (killL U T1) T1]
   generalize isOwnArg E f 0 _=c
   generalize List.contains (List.map (fun x:Nat × Nat=>x.1) _) _=c'
   cases c with
   | true =>
    cases c' with
    | true=>exact ⟨_,_,rfl,rfl⟩
    | false=>exact ⟨_,_,rfl,retire_hide _ U T1 B1⟩
   | false=>exact ⟨_,_,rfl,rfl⟩
  ·have hfr:∃ T1 B1,freezeOp E o { T:=T,B:=B }={ T:=T1,B:=B1 }∧freezeOp E o { T:=killL U T,B:=B }={ T:=killL U T1,B:=B1 }:=by
    unfold freezeOp
    rw [hop]
    simp only
    rw [hparts (fun x hx=>by rw [hop];simp only [Op.operands];exact List.mem_toArray.2 (List.mem_map.2 ⟨x,by simpa using hx,rfl⟩)) T B]
    exact ⟨_,_,rfl,retireAll_hide U _ T B⟩
   obtain ⟨T1,B1,e1,e2⟩:=hfr
   rw [e1,e2]
   unfold retireOp
   rw [hop]
   exact ⟨_,_,rfl,retire_hide _ U T1 B1⟩
  ·have hfr:∃ T1 B1,freezeOp E o { T:=T,B:=B }={ T:=T1,B:=B1 }∧freezeOp E o { T:=killL U T,B:=B }={ T:=killL U T1,B:=B1 }:=by
    unfold freezeOp
    rw [hop]
    simp only
    rw [hparts (fun x hx=>by rw [hop];simp only [Op.operands];exact List.mem_toArray.2 (List.mem_map.2 ⟨x,by simpa using hx,rfl⟩)) T B]
    exact ⟨_,_,rfl,retireAll_hide U _ T B⟩
   obtain ⟨T1,B1,e1,e2⟩:=hfr
   rw [e1,e2]
   unfold retireOp
   rw [hop]
   exact ⟨_,_,rfl,rfl⟩
  ·unfold freezeOp retireOp
   rw [hop]
   exact ⟨_,_,rfl,rfl⟩
 obtain ⟨T1,B1,e1,e2⟩:=hst
 unfold opX at h ⊢
 simp only at h ⊢
 rw [e1] at h
 rw [e2]
 obtain ⟨hb,h⟩:=cond_none h
 rw [hb]
 simp only [cond_false]
 have hquiet:isE E o { T:=T1,B:=B1 }=false→isE E o { T:=killL U T1,B:=B1 }=false→∃ S,(bif isE E o { T:=killL U T1,B:=B1 } then opE E o { T:=killL U T1,B:=B1 } (fun s=>K (refill U S s)) else opQ E o { T:=killL U T1,B:=B1 } fun s os=>K (refill U S ((({ T:=killL U T1,B:=B1 }:St).lay os).put o.dst s)))=some r:=by
  intro h1 h2
  rw [h1,cond_false] at h
  obtain ⟨s,os,g1,g2⟩:=opQ_run hp h
  refine ⟨(({ T:=T1,B:=B1 }:St).lay os).T,?_⟩
  rw [h2,cond_false]
  have g3:=opQ_congr (E:=E) (st:={ T:=T1,B:=B1 }) (st':={ T:=killL U T1,B:=B1 }) (fun _ _ _ h=>h) ⟨[],by simp⟩ rfl (fun _ _=>rfl) (fun x hx P t=>(hget T1 B1 x hx P t).symm) g1
  rw [opQ_param E hp,g3]
  show K (refill U _ ((({ T:=killL U T1,B:=B1 }:St).lay os).put o.dst s))=some r
  rw [lay_hide,refill_put hd]
  exact g2
 rcases hk with ⟨f,args,ts,hop⟩|⟨t,n,ps,hop⟩|⟨t,ps,hop⟩|⟨args,ts,hop⟩
 ·have hm:=hcall hop T1 B1 0
  have hE:isE E o { T:=killL U T1,B:=B1 }=isE E o { T:=T1,B:=B1 }:=by
   unfold isE
   rw [hop]
   simp only [hm]
  cases hc:isE E o { T:=T1,B:=B1 } with
  | false=>exact hquiet hc (hE.trans hc)
  | true =>
   rw [hc,cond_true] at h
   rw [hE,hc]
   simp only [cond_true]
   have hh:∀ st,hpEff E o st=false:=fun st=>by unfold hpEff;rw [hop]
   unfold opE at h ⊢
   rw [hh,cond_false] at h
   simp only [hh,cond_false]
   unfold opE0 at h ⊢
   rw [hop] at h
   simp only at h
   rw [hop]
   simp only [hm]
   generalize args.toList.map (({ T:=T1,B:=B1 }:St).get E.P 0)=l at h ⊢
   unfold callE at h ⊢
   cases hf:E.P.funcs[f]? with
   | none=>rw [hf] at h;cases h
   | some fn =>
    rw [hf] at h
    simp only at h ⊢
    rw [handMap_T f (killL U T1) T1]
    rw [show hpPair { T:=killL U T1,B:=B1 }=hpPair { T:=T1,B:=B1 } from rfl]
    generalize hpPair { T:=T1,B:=B1 }++handMap E { T:=T1,B:=B1 } f 0 l=m at h ⊢
    rw [handAll_T m f (killL U T1) T1,handObs_T m (killL U T1) T1]
    refine ⟨SV.rens (keepφ { T:=T1,B:=B1 } m) T1,?_⟩
    refine Eq.trans ?_ h
    split
    ·rename_i l2 extra os hA hO
     refine congrArg (fun x=>bif _ then x else none) (congrArg (E.C f l2 (os++extra)) ?_)
     funext r'
     rw [boxKept_T (killL U T1) T1]
     rw [show hpKept { T:=killL U T1,B:=B1 }=hpKept { T:=T1,B:=B1 } from rfl]
     refine congrArg (fun x=>bif _ then x else none) ?_
     rw [show keepφ { T:=killL U T1,B:=B1 } m=keepφ { T:=T1,B:=B1 } m from rfl,rens_hide,refill_put hd]
    ·rfl
 ·exact hquiet (by unfold isE;rw [hop]) (by unfold isE;rw [hop])
 ·exact hquiet (by unfold isE;rw [hop]) (by unfold isE;rw [hop])
 ·have hE:∀ st,isE E o st=true:=fun st=>by unfold isE;rw [hop]
  rw [hE,cond_true] at h
  simp only [hE,cond_true]
  exact opE_appE hop hd (fun t=>hcall hop T1 B1 t) h

def hid (ops:Array Oper)(listed:Array Bool)(X:List Nat):List Nat:=(X.filter fun x=>!listed.getD x false).filterMap fun x=>(ops[x]?).bind (·.dst)
theorem hid_mem {ops:Array Oper}{listed:Array Bool}{X:List Nat}{i:Nat}:i ∈ hid ops listed X ↔ ∃ x ∈ X,listed.getD x false=false∧∃ o,ops[x]?=some o∧o.dst=some i:=by
 unfold hid
 rw [List.mem_filterMap]
 constructor
 ·rintro ⟨x,hx,h⟩
  rw [List.mem_filter] at hx
  cases ho:ops[x]? with
  | none=>rw [ho] at h;cases h
  | some o=>rw [ho] at h;exact ⟨x,hx.1,by simpa using hx.2,o,ho,h⟩
 ·rintro ⟨x,hx,h,o,ho,hd⟩
  exact ⟨x,List.mem_filter.2 ⟨hx,by simp [h]⟩,by rw [ho];exact hd⟩
theorem filter_less {X:List Nat}{p q:Nat→Bool}{i:Nat}(hn:X.Nodup)(hi:i ∈ X)(hp:p i=true)(hq:∀ x,q x=(p x&&!(x==i))):(X.filter q).length+1=(X.filter p).length:=by
 induction X with
 | nil=>cases hi
 | cons a X ih =>
  rw [List.nodup_cons] at hn
  by_cases e:a=i
  ·subst e
   have h1:X.filter q=X.filter p:=List.filter_congr fun x hx=>by
    rw [hq x]
    have:(x==a)=false:=by rw [beq_eq_false_iff_ne];intro e;subst e;exact hn.1 hx
    rw [this];simp
   rw [List.filter_cons_of_pos hp,List.filter_cons_of_neg (by rw [hq a];simp),h1]
   rfl
  ·have hiX:i ∈ X:=by
    rcases List.mem_cons.1 hi with h|h
    ·exact absurd h.symm e
    ·exact h
   have hqa:q a=p a:=by
    rw [hq a]
    have:(a==i)=false:=by rw [beq_eq_false_iff_ne];exact e
    rw [this];simp
   have:=ih hn.2 hiX
   cases hpa:p a with
   | true=>rw [List.filter_cons_of_pos hpa,List.filter_cons_of_pos (p:=q) (by rw [hqa];exact hpa),List.length_cons,List.length_cons];omega
   | false=>rw [List.filter_cons_of_neg (p:=p) (by rw [hpa];simp),List.filter_cons_of_neg (p:=q) (by rw [hqa,hpa];simp)];exact this

theorem pend_any (hL:laidOutB E.P=true)(hC:OracleOk E.P E.C)(hp:Par E.C){ops:Array Oper}{K:St→Option Out}{r:Out}{Q:Exit→Act→World→Prop}(hQ:∀ st a w,Inv E.P w0 F Mo st a w→K st=some r→Q .normal a w)
  (hsel:Region.noSelect ops=true)(hQn:∀ e a w,Q e a w→e=.normal)(hpure:PureY E.P ops Q)(hlt:∀ (j:Nat)(o:Oper),ops[j]?=some o→∀ e ∈ o.after,Region.binds .any e=true→e.on < j)
  {ks X Y0 Z:List Nat}(D:Pend ops ks X Y0 Z)(hnd:X.Nodup)(hXs:∀ x ∈ X,x < ops.size∧lateAt ops x=false)(hZp:Z.Pairwise (· < ·)){Zo:List Oper}(hZo:Z.map (fun k=>ops[k]?)=Zo.map some)(hks:∀ k ∈ ks,k < ops.size∧tailAt ops k=true) :
  ∀ (n:Nat)(Y:List Nat)(listed:Array Bool)(T:List SV)(B:Obs)(a:Act)(w:World),Y.length+(X.filter fun x=>!listed.getD x false).length=n→Y.Pairwise (· < ·)→(∀ y ∈ Y,y ∈ Y0)→listed.size=ops.size→Closed ops listed →
   (∀ j,j < ops.size→listed.getD j false=false→j ∈ X∨j ∈ Y∨j ∈ Z)→(∀ y ∈ Y,listed.getD y false=false)→(∀ z ∈ Z,listed.getD z false=false) →
   (∀ x ∈ X,listed.getD x false=false→∃ o d v,ops[x]?=some o∧o.dst=some d∧opQ E o { T:=T,B:=B } pairK=some ([v],[])∧∀ s,T[d]?=some s→s=v) →
   Inv E.P w0 F Mo { T:=killL (hid ops listed X) T,B:=B } a w→execY E ops (Region.before ops) X Y (execOps E ops Zo K) { T:=T,B:=B }=some r→wpAny E.P .any ops Q (n+Z.length) listed a w:=by
 have hXks:∀ x ∈ X,x ∉ ks:=fun x hx hk=>by
  have h1:=(hks x hk).2
  rw [tailAt_late (hXs x hx).2] at h1;cases h1
 intro n
 induction n with
 | zero =>
  intro Y listed T B a w hn hYp hY hsz hcl hun hYl hZl hval hI h
  have hYe:Y=[]:=List.length_eq_zero_iff.1 (by omega)
  have hXe:(X.filter fun x=>!listed.getD x false)=[]:=List.length_eq_zero_iff.1 (by omega)
  subst hYe
  have hh:hid ops listed X=[]:=by unfold hid;rw [hXe];rfl
  rw [hh] at hI
  have hlX:∀ x ∈ X,listed.getD x false=true:=fun x hx=>by
   cases hg:listed.getD x false with
   | true=>rfl
   | false =>
    have:x ∈ X.filter fun x=>!listed.getD x false:=List.mem_filter.2 ⟨hx,by simp [hg]⟩
    rw [hXe] at this;cases this
  rw [Nat.zero_add]
  refine any_tail hsel hQn hpure hlt Z listed a w hZp (fun k hk=>hks k (D.zk k hk).1) hsz hcl (fun j hj=>⟨fun h=>?_,fun h=>hZl j h⟩) D.tails (wpOps_wpT Z a w (execOps_sound hL hC hQ Z Zo hZo hI h))
  rcases hun j hj h with h'|h'|h'
  ·rw [hlX j h'] at h;cases h
  ·cases h'
  ·exact h'
 | succ n ih =>
  intro Y listed T B a w hn hYp hY hsz hcl hun hYl hZl hval hI h
  have getb:∀ i (b:Bool),i < ops.size→listed.getD i b=listed.getD i false:=by
   intro i b hi
   rw [Array.getD_eq_getD_getElem?,Array.getD_eq_getD_getElem?,Array.getElem?_eq_getElem (by omega)];rfl
  obtain ⟨u,huXY,hul⟩:∃ u,(u ∈ X∨u ∈ Y)∧listed.getD u false=false:=by
   cases Y with
   | cons y Y=>exact ⟨y,.inr (by simp),hYl y (by simp)⟩
   | nil =>
    simp only [List.length_nil,Nat.zero_add] at hn
    obtain ⟨x,hx⟩:=List.exists_mem_of_length_pos (l:=X.filter fun x=>!listed.getD x false) (by omega)
    rw [List.mem_filter] at hx
    exact ⟨x,.inl hx.1,by simpa using hx.2⟩
  have hus:u < ops.size:=by
   rcases huXY with h|h
   ·exact (hXs u h).1
   ·exact (hks u (D.yk u (hY u h)).1).1
  have hready:∃ k,k ∈ Region.ready .any ops listed:=by
   obtain ⟨k,⟨k1,k2⟩,k3⟩:=least (p:=fun j=>j < ops.size∧listed.getD j false=false) ⟨u,hus,hul⟩
   refine ⟨k,mem_ready.2 ⟨by rw [getb k true k1];exact k2,_,Array.getElem?_eq_getElem k1,fun e he hb=>?_⟩⟩
   have hek:=hlt k _ (Array.getElem?_eq_getElem k1) e he hb
   cases hg:listed.getD e.on false with
   | true=>rfl
   | false=>exact absurd ⟨by omega,hg⟩ (k3 e.on hek)
  rw [show n+1+Z.length=(n+Z.length)+1 by omega]
  refine ⟨(fun h0=>by obtain ⟨k,hk⟩:=hready;rw [h0] at hk;cases hk),fun i hi=>?_⟩
  obtain ⟨h1,o,ho,h2⟩:=mem_ready.1 hi
  have hil:=(Array.getElem?_eq_some_iff.1 ho).1
  rw [getb i true hil] at h1
  have hdeps:∀ o',ops[i]?=some o'→∀ e ∈ o'.after,Region.binds .any e=true→listed.getD e.on false=true:=fun o' ho' e he hb=>h2 e (by rw [ho] at ho';injection ho' with ho';rw [ho'];exact he) hb
  have nobef:∀ z,listed.getD z false=false→¬ Bef ops i z:=fun z hz hb=>by
   have:=closed_bef hcl hb hdeps
   rw [hz] at this;cases this
  have hcl':=closed_set (i:=i) hcl (by omega) hdeps
  have hs1:(listed.setIfInBounds i true).size=ops.size:=by simpa using hsz
  have hget':∀ j,(listed.setIfInBounds i true).getD j false=if i=j then true else listed.getD j false:=fun j=>getD_set _ _ _ _ (by omega)
  rcases hun i hil h1 with hiX|hiY|hiZ
  ·-- a load
   obtain ⟨_,o',d,ho',hq,hd,hlo,hself⟩:=D.xk i hiX
   rw [ho] at ho';injection ho' with ho';subst ho'
   obtain ⟨o2,d2,v,g1,g2,g3,g4⟩:=hval i hiX h1
   rw [ho] at g1;injection g1 with g1;subst g1
   rw [hd] at g2;injection g2 with g2;subst g2
   have hcount:=filter_less (p:=fun x=>!listed.getD x false) (q:=fun x=>!(listed.setIfInBounds i true).getD x false) hnd hiX (by simp [h1]) (fun x=>by
    simp only [hget' x]
    by_cases e:i=x
    ·subst e;simp
    ·rw [if_neg e]
     have:(x==i)=false:=by rw [beq_eq_false_iff_ne];exact Ne.symm e
     rw [this];simp)
   refine x_step hL hC ho hq hd hlo g3 (fun s hs hU=>?_) g4 hI (U':=hid ops (listed.setIfInBounds i true) X) (fun s hs=>?_) (fun a' w' hI'=>ih Y _ T B a' w' (by omega) hYp hY hs1 hcl' (fun j hj hj2=>?_) (fun y hy=>?_) (fun z hz=>?_) (fun x hx hxl=>?_) hI' h)
   ·obtain ⟨z,hz,hzl,p,hp',hpd⟩:=hid_mem.1 hU
    by_cases e:i=z
    ·subst e
     rw [ho] at hp';injection hp' with hp';subst hp'
     rw [hd] at hpd;injection hpd with hpd;subst hpd
     exact hself hs
    ·obtain ⟨e',he,hb,hon⟩:=(D.xx i hiX z hz e o p s ho hp' hpd).2 hs
     have:=hdeps o ho e' he hb
     rw [hon,hzl] at this;cases this
   ·obtain ⟨z,hz,hzl,p,hp',hpd⟩:=hid_mem.1 hs
    by_cases e:i=z
    ·subst e
     rw [ho] at hp';injection hp' with hp';subst hp'
     rw [hd] at hpd;injection hpd with hpd
     exact .inl hpd.symm
    ·exact .inr (hid_mem.2 ⟨z,hz,by rw [hget' z,if_neg e];exact hzl,p,hp',hpd⟩)
   ·rw [hget' j] at hj2
    split at hj2
    ·cases hj2
    ·exact hun j hj hj2
   ·rw [hget' y,if_neg (fun e=>by subst e;exact hXks i hiX (D.yk i (hY i hy)).1)];exact hYl y hy
   ·rw [hget' z,if_neg (fun e=>by subst e;exact hXks i hiX (D.zk i hz).1)];exact hZl z hz
   ·rw [hget' x] at hxl
    split at hxl
    ·cases hxl
    ·exact hval x hx hxl
  ·-- a call
   match Y,hYp,hiY with
   | y :: Y',hYp,hiY =>
    rw [List.pairwise_cons] at hYp
    have hiy:i=y:=by
     rcases List.mem_cons.1 hiY with h|h
     ·exact h
     ·exact absurd (D.yy y (hY y (by simp)) i (hY i (by simp [h])) (hYp.1 i h)) (nobef y (hYl y (by simp)))
    subst hiy
    obtain ⟨_,o',d,ho',hq,hd⟩:=D.yk i (hY i (by simp))
    rw [ho] at ho';injection ho' with ho';subst ho'
    have hiX:i ∉ X:=fun hx=>hXks i hx (D.yk i (hY i (by simp))).1
    unfold execY at h
    rw [ho] at h
    simp only at h
    obtain ⟨S,hS⟩:=hideY (ops:=ops) (U:=hid ops listed X) hp hq (fun s hs hU=>by
     obtain ⟨z,hz,hzl,p,hp',hpd⟩:=hid_mem.1 hU
     exact nobef z hzl ((D.yx i (hY i (by simp)) z hz o p s ho hp' hpd).1 hs)) (fun s hs hU=>by
     obtain ⟨z,hz,hzl,p,hp',hpd⟩:=hid_mem.1 hU
     exact (D.yx i (hY i (by simp)) z hz o p s ho hp' hpd).2 hs) h
    obtain ⟨st',g1,g2⟩:=opX_sound hL hC hI hS
    obtain ⟨g3,g4⟩:=reEv_run hp _ g1
    have hhid:hid ops (listed.setIfInBounds i true) X=hid ops listed X:=by
     unfold hid
     congr 1
     refine List.filter_congr fun x hx=>?_
     rw [hget' x,if_neg (fun e=>by subst e;exact hiX hx)]
    refine wpOp_of ho (isY1_of hq).1 (g2 _ _ fun a' w' hI'=>?_)
    refine ih Y' (listed.setIfInBounds i true) (refill (hid ops listed X) S st').T st'.B a' w' ?_ hYp.2 (fun y hy=>hY y (by simp [hy])) hs1 hcl' (fun j hj hj2=>?_) (fun y hy=>?_) (fun z hz=>?_) (fun x hx hxl=>?_) ?_ g3
    ·have:(X.filter fun x=>!(listed.setIfInBounds i true).getD x false)=X.filter fun x=>!listed.getD x false:=List.filter_congr fun x hx=>by rw [hget' x,if_neg (fun e=>by subst e;exact hiX hx)]
     rw [this]
     simp only [List.length_cons] at hn
     omega
    ·rw [hget' j] at hj2
     split at hj2
     ·cases hj2
     ·rename_i hne
      rcases hun j hj hj2 with h|h|h
      ·exact .inl h
      ·rcases List.mem_cons.1 h with h|h
       ·exact absurd h.symm hne
       ·exact .inr (.inl h)
      ·exact .inr (.inr h)
    ·rw [hget' y,if_neg (fun e=>by subst e;have:=hYp.1 i hy;omega)];exact hYl y (by simp [hy])
    ·rw [hget' z,if_neg (fun e=>by subst e;exact (D.zk i hz).2 (hY i (by simp)))];exact hZl z hz
    ·rw [hget' x,if_neg (fun e=>by subst e;exact hiX hx)] at hxl
     obtain ⟨o2,v,e1,e2,e3⟩:=g4 x (List.mem_filter.2 ⟨hx,by
      cases hb:((Region.before ops).getD i 0).testBit x with
      | false=>rfl
      | true=>exact absurd (before_spec ops hb) (nobef x hxl)⟩)
     obtain ⟨_,o3,d3,f1,_,f2,_,_⟩:=D.xk x hx
     rw [e1] at f1;injection f1 with f1;subst f1
     refine ⟨o2,d3,v,e1,f2,e2,fun s hs=>?_⟩
     rw [f2] at e3
     simp only [Option.getD_some] at e3
     rw [e3,List.getD_eq_getElem?_getD,hs];rfl
    ·rw [hhid]
     refine Inv.slots (T:=st'.T) (B:=st'.B) hI' ?_ fun j s hs=>?_
     ·rw [killL_len]
      show (setN _ _ _).length=_
      apply Eq.symm
      have h1:=congrArg List.length (refill_hide (hid ops listed X) S st')
      rw [killL_len,killL_len] at h1
      exact h1.symm
     ·rw [refill_hide,killL_get] at hs
      split at hs
      ·cases hg:st'.T[j]? with
       | none=>rw [hg] at hs;cases hs
       | some x=>rw [hg] at hs;injection hs with hs;exact .inl hs.symm
      ·exact .inr hs
  ·exfalso
   rcases huXY with h|h
   ·exact nobef u hul ((D.zx i hiZ).1 u h)
   ·exact nobef u hul ((D.zx i hiZ).2 u (hY u h))
end
end Go.X
set_option linter.unusedVariables false
set_option linter.unusedSimpArgs false
namespace Go.X
open Go
section
variable {E : Env} {w0 : World} {F : Foot} {Mo : Nat → Prop}

theorem draw_ok (hL:laidOutB E.P=true)(hC:OracleOk E.P E.C)(hm:E.P.follows .mixedOrders=true){ops:Array Oper}(hok:dOk ops=true):DrawOk E ops:=by
 intro w0 F Mo st a w K r Q0 hQ0 hI h id
 have D:=drawn_of hok
 refine wp_mono (Q:=fun e a w=>e=.normal∧Q0 .normal a w) ?_ (fun e a w h=>by obtain ⟨rfl,h⟩:=h;exact h)
 generalize hQdef:(fun e a w=>e=Exit.normal∧Q0 .normal a w:Exit→Act→World→Prop)=Q
 have hQ:∀ st a w,Inv E.P w0 F Mo st a w→K st=some r→Q .normal a w:=fun st a w hI h=>by rw [←hQdef];exact ⟨rfl,hQ0 st a w hI h⟩
 have hQn:∀ e a w,Q e a w→e=.normal:=fun e a w h=>by rw [←hQdef] at h;exact h.1
 unfold execD at h
 obtain ⟨hfa,h⟩:=cond_none h
 have hfa:∀ {j:Nat}{o:Oper},ops[j]?=some o→FaOk E.P o:=fun hj=>faOk_spec (by simpa using hfa) hj
 refine wp_region_any hm ?_
 have hle:nHead ops≤ops.size:=by
  have:nHead ops≤ops.toList.length:=by
   unfold nHead
   have:=(List.dropWhile_sublist (l:=ops.toList.reverse) (fun o=>!cloOp o)).length_le
   simpa using this
  rwa [Array.length_toList] at this
 have hI':Inv E.P w0 F Mo st a { w with drawn:=w.drawn+1 }:=by
  obtain ⟨h1,β,h2,h3⟩:=hI
  exact ⟨h1,β,h2.world (Nat.le_refl _) (fun _ _=>rfl),h3.world (Nat.le_refl _) (fun _ _=>rfl) rfl rfl⟩
 have hgf0:∀ j,(Array.replicate ops.size false).getD j false=false:=by
  intro j
  rw [Array.getD_eq_getD_getElem?,Array.getElem?_replicate]
  split <;> rfl
 suffices key:wpAny E.P .any ops Q (nHead ops+(ops.size - nHead ops)) (Array.replicate ops.size false) a { w with drawn:=w.drawn+1 } by rwa [Nat.add_sub_of_le hle] at key
 refine any_head (listed:=Array.replicate ops.size false) hQn D.lt (fun j hj=>(D.head j hj).2.2) (nHead ops) 0 (ops.size - nHead ops) (by omega) hle (by rw [Array.size_replicate]) (fun j o _ hj=>by rw [hgf0] at hj;cases hj) (fun j hj=>by rw [hgf0];exact (decide_eq_false (Nat.not_lt_zero j)).symm) ?_
 have hhead:=execOps_sound (Q:=fun e a w=>e=.normal∧∀ listed:Array Bool,listed.size=ops.size→Closed ops listed→(∀ j,j < ops.size→listed.getD j false=decide (j < nHead ops))→wpAny E.P .any ops Q (ops.size - nHead ops) listed a w) hL hC ?_ (List.range' 0 (nHead ops)) (ops.toList.take (nHead ops)) (by
  apply List.ext_getElem (by simp;omega)
  intro j h1 h2
  have hj:j < nHead ops:=by simpa using h1
  simp [show j < ops.size by omega]) hI' h
 ·exact hhead
 clear hI' hI h
 intro st a w hI h
 refine ⟨rfl,fun listed0 hls0 hlc0 hl0=>?_⟩
 simp only at h
 generalize hA:(ops.toList.filter fun o=>!skipOp ops o)=A at h
 have hI0:Inv E.P w0 F Mo (retireAll (A.filterMap fun o=>bif laysOp o then o.dst else none) (preFreeze E A st st)) a w:=by
  exact Inv.retireAll _ (Inv.preFreeze A hI)
 have hfree:∀ (j:Nat)(o:Oper),ops[j]?=some o→skipOp ops o=false→laysOp o=true→∀ d,o.dst=some d→Obs.get (retireAll (A.filterMap fun o=>bif laysOp o then o.dst else none) (preFreeze E A st st)).B d=none:=by
  intro j o hj hlt hl d hd
  refine retireAll_get_none _ (.inr ⟨List.mem_filterMap.2 ⟨o,?_,by rw [hl];exact hd⟩,by have:=(D.lo j o hj hlt).1;rw [hd] at this;exact lowHL this⟩)
  rw [←hA]
  exact List.mem_filter.2 ⟨by simpa using Array.mem_of_getElem? hj,by rw [hlt];rfl⟩
 generalize retireAll (A.filterMap fun o=>bif laysOp o then o.dst else none) (preFreeze E A st st)=st0 at h hI0 hfree
 obtain ⟨T0,B0⟩:=st0
 rw [←hA] at h
 obtain ⟨tr,t1,t2,t3⟩:=execA_trace hC.par ops.toList T0 [] h
 rw [List.append_nil] at t3
 simp only at t3
 obtain ⟨hcl0,t3⟩:=cond_some t3
 have htl:tr.length=ops.size:=by rw [t1,Array.length_toList]
 have toL:∀ {k:Nat}{o:Oper},ops.toList[k]?=some o→ops[k]?=some o:=fun h=>by rw [←Array.getElem?_toList];exact h
 have hmemL:∀ d,d ∈ linT ops ↔ ∃ (j:Nat)(o:Oper),ops[j]?=some o∧linOf ops o=some d:=by
  intro d
  unfold linT
  rw [List.mem_filterMap]
  constructor
  ·rintro ⟨o,ho,h⟩
   obtain ⟨j,hj⟩:=List.getElem?_of_mem ho
   exact ⟨j,o,toL hj,h⟩
  ·rintro ⟨j,o,ho,h⟩
   exact ⟨o,by simpa using Array.mem_of_getElem? ho,h⟩
 have hclean:Clean ops tr T0 B0:=by
  have key:∀ (j:Nat)(o:Oper)(d:Nat),ops[j]?=some o→linOf ops o=some d→(T0.all fun s=>!s.has d)=true∧((putAll ops ops.toList tr ops.toList.length T0).zipIdx.all fun x=>x.2==d || !x.1.has d)=true∧(B0.all fun x=>!x.2.has d)=true∧((((tr.map (·.2)).reverse).flatten).all fun x=>!x.2.has d)=true:=by
   intro j o d ho hl
   unfold linClean at hcl0
   have:=List.all_eq_true.1 hcl0 d ((hmemL d).2 ⟨j,o,ho,hl⟩)
   simp only [Bool.and_eq_true] at this
   exact ⟨this.1,this.2.1,this.2.2.1,this.2.2.2⟩
  refine ⟨fun j o d ho hl i s hs=>?_,fun j o d ho hl k y x i h1 h2 h3 h4 h5=>?_,fun j o d ho hl e ob hob=>?_,fun j o d ho hl k x e ob h1 h2=>?_⟩
  ·have:=List.all_eq_true.1 (key j o d ho hl).1 s (List.mem_of_getElem? hs)
   simpa using this
  ·have hin:=putAll_in ops ops.toList tr ops.toList.length T0 i k y x D.nd h1 h2 h3 (get_lt h1) h4
   have:=List.all_eq_true.1 (key j o d ho hl).2.1 (x.1,i) (by
    rw [List.mem_zipIdx_iff_getElem?];exact hin)
   simp only [Bool.or_eq_true,beq_iff_eq,Bool.not_eq_true'] at this
   rcases this with h|h
   ·exact absurd h h5
   ·exact h
  ·by_cases hel:e < HL
   ·rw [Obs.get_lo hel] at hob
    have:=List.all_eq_true.1 (key j o d ho hl).2.2.1 (e,ob) (obs_mem hob)
    simpa using this
   ·rw [Obs.get_hi hel] at hob
    rcases hiOf_some hob with ⟨_,l,_,h3⟩|⟨i,y,_,_,h3⟩
    ·subst h3;rfl
    ·rcases HE.ob_cases h3 with ⟨_,_,_,h⟩|⟨_,_,_,h⟩ <;> subst h <;> rfl
  ·have:=List.all_eq_true.1 (key j o d ho hl).2.2.2 (e,ob) (by
    rw [List.mem_flatten]
    exact ⟨x.2,by rw [List.mem_reverse,List.mem_map];exact ⟨x,List.mem_of_getElem? h1,rfl⟩,h2⟩)
   simpa using this
 generalize hks:((List.range ops.size).filter fun k=>tailAt ops k)=ks
 have hmem:∀ k,k ∈ ks ↔ k < ops.size∧tailAt ops k=true:=fun k=>by rw [←hks,List.mem_filter,List.mem_range]
 have hpw:ks.Pairwise (· < ·):=by rw [←hks];exact List.Pairwise.filter _ List.pairwise_lt_range
 have hmap:ks.map (fun k=>ops[k]?)=(ops.toList.filter fun o=>tailOp ops o&&!headOp ops o).map some:=by
  rw [←hks]
  have gen:∀ (l:List Nat)(l':List Oper),l.map (fun k=>ops[k]?)=l'.map some→(l.filter fun k=>tailAt ops k).map (fun k=>ops[k]?)=(l'.filter fun o=>tailOp ops o&&!headOp ops o).map some:=by
   intro l
   induction l with
   | nil=>intro l' h;cases l' with|nil=>rfl|cons _ _=>simp at h
   | cons k l ih =>
    intro l' h
    cases l' with
    | nil=>simp at h
    | cons o l' =>
     rw [List.map_cons,List.map_cons,List.cons.injEq] at h
     have:=ih l' h.2
     by_cases hl:(tailOp ops o&&!headOp ops o)=true
     ·rw [List.filter_cons_of_pos (by rw [tailAt_of h.1];exact hl),List.filter_cons_of_pos (p:=fun o=>tailOp ops o&&!headOp ops o) hl,List.map_cons,List.map_cons,this,h.1]
     ·rw [List.filter_cons_of_neg (by rw [tailAt_of h.1];exact hl),List.filter_cons_of_neg (p:=fun o=>tailOp ops o&&!headOp ops o) hl,this]
  exact gen _ _ (range_map ops)
 generalize hTm:killL (linT ops) (putAll ops ops.toList tr ops.toList.length T0)=Tm at t3
 generalize hBm:((((tr.map (·.2)).reverse).flatten).filter fun x=>x.1==HL || !(linT ops).contains x.1).foldr pushA B0=Bm at t3
 have hTml:Tm.length=T0.length:=by rw [←hTm,killL_len,putAll_len]
 have mid:∀ (X:Nat→Prop)(listed:Array Bool)(a:Act)(w:World),DI E w0 F Mo ops tr T0 B0 listed a w →
   (∀ (k:Nat)(y:Oper),ops.toList[k]?=some y→skipOp ops y=false→listed.getD k false=true∨(X k∧linOf ops y=none∧∀ x,tr[k]?=some x→x.2=[])) →
   ∀ Td:List SV,Td.length=T0.length→(∀ (i:Nat)(s:SV),Td[i]?=some s→s=.dead∨(Tm[i]?=some s∧∀ (k:Nat)(y:Oper),X k→ops.toList[k]?=some y→dstA ops y≠some i))→Inv E.P w0 F Mo { T:=Td,B:=Bm } a w:=by
  intro X listed a w hDI hallX Td hTdl hTd
  obtain ⟨hcl,hsz,honly,hheads,hdef,T,B,β,ht0,ht1,ht2,hb1,hb2,hb3,hhp,hR,hk⟩:=hDI
  have hGone:∀ d,Gone ops listed d ↔ d ∈ linT ops:=by
   intro d
   rw [hmemL]
   constructor
   ·rintro ⟨j,o,h1,h2,_⟩;exact ⟨j,o,h1,h2⟩
   ·rintro ⟨j,o,h1,h2⟩
    rcases hallX j o (by rw [Array.getElem?_toList];exact h1) (lin_tail h2).1 with h|⟨_,h,_⟩
    ·exact ⟨j,o,h1,h2,h⟩
    ·rw [h2] at h;cases h
  have hT:∀ i,i ∉ linT ops→(∀ (k:Nat)(y:Oper),X k→ops.toList[k]?=some y→dstA ops y≠some i)→T[i]?=(putAll ops ops.toList tr ops.toList.length T0)[i]?:=by
   intro i hi hXi
   by_cases hw:∃ (k:Nat)(y:Oper),ops.toList[k]?=some y∧dstA ops y=some i
   ·obtain ⟨k,y,hk1,hk2⟩:=hw
    have hkm:=get_lt hk1
    obtain ⟨xk,hxk⟩:∃ xk,tr[k]?=some xk:=⟨_,List.getElem?_eq_getElem (by omega)⟩
    have hlk:listed.getD k false=true:=by
     rcases hallX k y hk1 (dstA_some hk2).1 with h|⟨h,_⟩
     ·exact h
     ·exact absurd hk2 (hXi k y h hk1)
    by_cases hil:i < T0.length
    ·rw [ht2 k y xk i hk1 hxk hlk hk2 hil (fun h=>hi ((hGone i).1 h)),putAll_in ops ops.toList tr ops.toList.length T0 i k y xk D.nd hk1 hxk hk2 hkm hil]
    ·rw [List.getElem?_eq_none (show T.length≤i by omega),List.getElem?_eq_none (by rw [putAll_len];omega)]
   ·rw [ht1 i (fun k y h1 _ h3=>hw ⟨k,y,h1,h3⟩),putAll_out ops ops.toList tr ops.toList.length T0 i (fun k y _ h1 h3=>hw ⟨k,y,h1,h3⟩)]
  have hkA:∀ (k:Nat)(x:SV × Obs) d ob,tr[k]?=some x→(d,ob) ∈ x.2→listed.getD k false=true:=fun k x d ob h hm=>by
   have hkl:k < ops.toList.length:=by have:=get_lt h;omega
   have hak:=List.getElem?_eq_getElem hkl
   cases hkt:skipOp ops ops.toList[k] with
   | true=>rw [(t2 k _ x hak h).1 hkt] at hm;simp at hm
   | false =>
    rcases hallX k _ hak hkt with h'|⟨_,_,h'⟩
    ·exact h'
    ·rw [h' x h] at hm;simp at hm
  have hnoskip:∀ (k:Nat)(x:SV × Obs) d ob,tr[k]?=some x→(d,ob) ∈ x.2→listed.getD k false=true:=hkA
  have hmemF:∀ x,x ∈ ((tr.map (·.2)).reverse).flatten ↔ ∃ (k:Nat)(y:SV × Obs),tr[k]?=some y∧x ∈ y.2:=by
   intro x
   rw [List.mem_flatten]
   constructor
   ·rintro ⟨l,hl,hx⟩
    rw [List.mem_reverse,List.mem_map] at hl
    obtain ⟨y,hy,rfl⟩:=hl
    obtain ⟨k,hk⟩:=List.getElem?_of_mem hy
    exact ⟨k,y,hk,hx⟩
   ·rintro ⟨k,y,hy,hx⟩
    exact ⟨y.2,by rw [List.mem_reverse,List.mem_map];exact ⟨y,List.mem_of_getElem? hy,rfl⟩,hx⟩
  have hfl:=foldr_heap B0 ((((tr.map (·.2)).reverse).flatten).filter fun x=>x.1==HL || !(linT ops).contains x.1) (fun x hx hne=>by
   obtain ⟨k,y,h1,h2⟩:=(hmemF x).1 (List.mem_filter.1 hx).1
   exact trace_low htl t2 h1 h2 hne)
  have hmF:∀ ob,(HL,ob) ∈ ((((tr.map (·.2)).reverse).flatten).filter fun x=>x.1==HL || !(linT ops).contains x.1) ↔ ∃ (k:Nat)(y:SV × Obs),tr[k]?=some y∧(HL,ob) ∈ y.2:=by
   intro ob
   rw [List.mem_filter,hmemF]
   exact ⟨fun h=>h.1,fun h=>⟨h,by simp⟩⟩
  have hpw2:((((tr.map (·.2)).reverse).flatten).filter fun x=>x.1==HL || !(linT ops).contains x.1).Pairwise (fun x y=>¬ (x.1=HL∧y.1=HL)):=by
   refine List.Pairwise.filter _ ?_
   rw [List.pairwise_flatten]
   refine ⟨fun l hl=>?_,?_⟩
   ·rw [List.mem_reverse,List.mem_map] at hl
    obtain ⟨y,hy,rfl⟩:=hl
    obtain ⟨k,hk⟩:=List.getElem?_of_mem hy
    by_cases hh:∃ ob,(HL,ob) ∈ y.2
    ·obtain ⟨ob,hob⟩:=hh
     rw [(heap_of htl t2 hk hob).1]
     simp
    ·refine List.pairwise_of_forall_mem_list fun x hx z _ hxz=>hh ⟨x.2,?_⟩
     have:x=(HL,x.2):=by rw [←hxz.1]
     rw [←this];exact hx
   ·rw [List.pairwise_reverse,List.pairwise_map,List.pairwise_iff_getElem]
    intro i j hi hj hij x hx y hy hxy
    have:=heap_one htl t2 (k:=i) (k':=j) (ob:=y.2) (ob':=x.2) (List.getElem?_eq_getElem hi) (by rw [←hxy.2];exact hy) (List.getElem?_eq_getElem hj) (by rw [←hxy.1];exact hx)
    omega
  have hhas:∀ ob,(HL,ob) ∈ ((((tr.map (·.2)).reverse).flatten).filter fun x=>x.1==HL || !(linT ops).contains x.1)→Obs.hasH B0=true:=by
   intro ob hm
   obtain ⟨k,y,h1,h2⟩:=(hmF ob).1 hm
   exact (heap_of htl t2 h1 h2).2.2
  have hBhas:Obs.hasH B=Obs.hasH (((((tr.map (·.2)).reverse).flatten).filter fun x=>x.1==HL || !(linT ops).contains x.1).foldr pushA B0):=by rw [hhp.1,hfl.2.1 hhas]
  have hBhps:Obs.hps B=Obs.hps (((((tr.map (·.2)).reverse).flatten).filter fun x=>x.1==HL || !(linT ops).contains x.1).foldr pushA B0):=by
   rcases hhp.2 with ⟨h1,h2⟩|⟨k,y,ob,h1,h2,h3,h4⟩
   ·rw [hfl.1 fun ob hm=>by
     obtain ⟨k,y,g1,g2⟩:=(hmF ob).1 hm
     exact h2 k y ob g1 (hkA k y _ _ g1 g2) g2]
    exact h1
   ·have hm:=(hmF ob).2 ⟨k,y,h1,by rw [h3];simp⟩
    rw [hfl.2.2 ob hpw2 hm (hhas ob hm)]
    exact h4
  have hB:∀ d,Obs.get B d=Obs.get (((((tr.map (·.2)).reverse).flatten).filter fun x=>x.1==HL || !(linT ops).contains x.1).foldr pushA B0) d:=by
   intro d
   by_cases hdl:d < HL
   rotate_left
   ·exact get_hi_eq hBhas hBhps hdl
   obtain ⟨l1,l2⟩:=last_laid d tr.length tr rfl
   rw [Obs.get_lo (B:=List.foldr _ _ _) hdl,foldr_ins_get B0 d (by omega),get_filter d (fun n=>n==HL || !(linT ops).contains n)]
   have hdH:(d==HL)=false:=by rw [beq_eq_false_iff_ne];omega
   rw [hdH,Bool.false_or,←Obs.get_lo (B:=B0) hdl]
   by_cases hdL:d ∈ linT ops
   ·rw [if_neg (by simpa using hdL)]
    simp only
    cases hg:Obs.get B0 d with
    | some ob=>exact hb1 d ob hdl hg
    | none =>
     cases hg2:Obs.get B d with
     | none=>rfl
     | some ob =>
      exfalso
      rcases hb3 d ob hdl hg2 with h|⟨_,_,_,_,_,h⟩
      ·rw [hg] at h;cases h
      ·exact h ((hGone d).2 hdL)
   rw [if_pos (by simpa using hdL)]
   cases hd:Obs.get0 (((tr.map (·.2)).reverse).flatten) d with
   | some ob =>
    obtain ⟨k,x,h1,h2,h3⟩:=l1 ob hd
    exact hb2 k x d ob hdl h1 (hkA k x d ob h1 h2) h2 (fun h=>hdL ((hGone d).1 h)) fun k' x' q1 q2 _=>h3 k' x' q1 q2
   | none =>
    have hno:=l2 hd
    simp only
    cases hg:Obs.get B0 d with
    | some ob=>exact hb1 d ob hdl hg
    | none =>
     cases hg2:Obs.get B d with
     | none=>rfl
     | some ob =>
      exfalso
      rcases hb3 d ob hdl hg2 with h|⟨k,x,h1,_,h3,_⟩
      ·rw [hg] at h;cases h
      ·exact hno k x h1 ob h3
  rw [hBm] at hBhps hB
  refine ⟨hdef,β,?_,hk.ext hBhps hB⟩
  refine (hR.weaken (T':=Td) (by omega) (fun i s hs=>?_)).ext hBhps hB
  rcases hTd i s hs with h|⟨h,hXi⟩
  ·exact .inl h
  ·rw [←hTm,killL_get] at h
   by_cases hi:i ∈ linT ops
   ·rw [if_pos hi] at h
    cases hp:(putAll ops ops.toList tr ops.toList.length T0)[i]? with
    | none=>rw [hp] at h;cases h
    | some s0=>rw [hp] at h;injection h with h;exact .inl h.symm
   ·rw [if_neg hi,←hT i hi hXi] at h
    exact .inr h
 have pend:anyReg ops=true→∀ (c:Nat)(listed:Array Bool)(a:Act)(w:World),unl ops listed ops.size=c→DI E w0 F Mo ops tr T0 B0 listed a w→(∀ j,j < ops.size→listed.getD j false=false→lateAt ops j=false→heldAt ops j=true)→wpAny E.P .any ops Q (c+ks.length) listed a w:=by
  intro hna c listed a w hc hDI hheldX
  have hsz:=hDI.size
  have DP:=D.tails
  rw [hks] at DP
  have DP:=DP.1 hna
  have heX:∀ j,heldAt ops j=true ↔ j ∈ xIx ops:=fun j=>by unfold heldAt;rw [hna,Bool.true_and];simp
  unfold execT at t3
  rw [hna,cond_true] at t3
  unfold execP at t3
  obtain ⟨g1,g4⟩:=reEv_run hC.par _ t3
  have hpwX:(xIx ops).Pairwise (· < ·):=List.Pairwise.filter _ List.pairwise_lt_range
  have hpwY:(y1Ix ops).Pairwise (· < ·):=List.Pairwise.filter _ (List.Pairwise.filter _ List.pairwise_lt_range)
  have hpwZ:(y2Ix ops).Pairwise (· < ·):=List.Pairwise.filter _ (List.Pairwise.filter _ List.pairwise_lt_range)
  have hndOf:∀ {l:List Nat},l.Pairwise (· < ·)→l.Nodup:=fun h=>h.imp fun h e=>by omega
  have hXs:∀ x ∈ xIx ops,x < ops.size∧lateAt ops x=false:=fun x hx=>by
   obtain ⟨h1,o,_,h2,_⟩:=DP.xk x hx
   exact ⟨(Array.getElem?_eq_some_iff.1 h2).1,h1⟩
  have hZo:(y2Ix ops).map (fun k=>ops[k]?)=((y2Ix ops).filterMap fun k=>ops[k]?).map some:=by
   have gen:∀ l:List Nat,(∀ k ∈ l,k < ops.size)→l.map (fun k=>ops[k]?)=(l.filterMap fun k=>ops[k]?).map some:=by
    intro l
    induction l with
    | nil=>intro _;rfl
    | cons k l ih =>
     intro h
     have hk:=Array.getElem?_eq_getElem (h k (by simp))
     rw [List.map_cons,List.filterMap_cons,hk,ih fun x hx=>h x (by simp [hx])]
     rfl
   exact gen _ fun k hk=>((hmem k).1 (DP.zk k hk).1).1
  have hpre:∃ l,Obs.hps Bm=Obs.hps B0++l:=by
   have hmemF:∀ x,x ∈ ((tr.map (·.2)).reverse).flatten ↔ ∃ (k:Nat)(y:SV × Obs),tr[k]?=some y∧x ∈ y.2:=by
    intro x
    rw [List.mem_flatten]
    constructor
    ·rintro ⟨l,hl,hx⟩
     rw [List.mem_reverse,List.mem_map] at hl
     obtain ⟨y,hy,rfl⟩:=hl
     obtain ⟨k,hk⟩:=List.getElem?_of_mem hy
     exact ⟨k,y,hk,hx⟩
    ·rintro ⟨k,y,hy,hx⟩
     exact ⟨y.2,by rw [List.mem_reverse,List.mem_map];exact ⟨y,List.mem_of_getElem? hy,rfl⟩,hx⟩
   obtain ⟨l,hl⟩:=foldr_pref B0 ((((tr.map (·.2)).reverse).flatten).filter fun x=>x.1==HL || !(linT ops).contains x.1) (fun x hx hne=>by
    obtain ⟨k,y,h1,h2⟩:=(hmemF x).1 (List.mem_filter.1 hx).1
    exact trace_low htl t2 h1 h2 hne) (fun x hx hxl=>by
    obtain ⟨k,y,h1,h2⟩:=(hmemF x).1 (List.mem_filter.1 hx).1
    have:x=(HL,x.2):=by rw [←hxl]
    rw [this] at h2
    exact (heap_of htl t2 h1 h2).2.2)
   rw [hBm] at hl
   exact ⟨l,hl⟩
  have hI:Inv E.P w0 F Mo { T:=killL (hid ops listed (xIx ops)) Tm,B:=Bm } a w:=mid (fun j=>j ∈ xIx ops∧listed.getD j false=false) listed a w hDI (fun k y h1 h2=>by
   have hkl:=get_lt h1
   rw [Array.length_toList] at hkl
   have hla:lateAt ops k=false:=by rw [lateAt_of (toL h1)];exact h2
   cases hg:listed.getD k false with
   | true=>exact .inl rfl
   | false =>
    have hkX:=(heX k).1 (hheldX k hkl hg hla)
    obtain ⟨_,o,d,ho,hq,hd,_,_⟩:=DP.xk k hkX
    rw [toL h1] at ho;injection ho with ho;subst ho
    obtain ⟨hgd,_,hkind⟩:=isQ3_of hq
    have hlin:linOf ops y=none:=by
     cases hlo:linOf ops y with
     | none=>rfl
     | some d =>
      obtain ⟨_,_,_,_,h3⟩:=lin_tail hlo
      rcases hkind with ⟨_,_,h⟩|⟨_,_,_,h⟩|⟨_,_,_,h⟩ <;> rw [h] at h3 <;> cases h3
    refine .inr ⟨⟨hkX,rfl⟩,hlin,fun x hx=>?_⟩
    rcases (t2 k y x h1 hx).2 h2 with ⟨_,_,_,g,_⟩|⟨_,_,g,_⟩|⟨_,_,_,_,_,_,g,_⟩|⟨_,_,_,_,_,_,g,_⟩
    ·rw [hgd] at g;cases g
    ·exact q3_none hC.par hq g
    ·rw [hlin] at g;cases g
    ·rcases hkind with ⟨_,_,h⟩|⟨_,_,_,h⟩|⟨_,_,_,h⟩ <;> rw [h] at g <;> cases g) _ (by rw [killL_len];exact hTml) (fun i s hs=>by
   rw [killL_get] at hs
   split at hs
   ·cases hg:Tm[i]? with
    | none=>rw [hg] at hs;cases hs
    | some y=>rw [hg] at hs;injection hs with hs;exact .inl hs.symm
   ·rename_i hn
    refine .inr ⟨hs,fun k y hk h1 h2=>hn (hid_mem.2 ⟨k,hk.1,hk.2,y,toL h1,(dstA_some h2).2⟩)⟩)
  have hfil:c=((xIx ops).filter fun x=>!listed.getD x false).length:=by
   have gen:∀ m,m≤ops.size→unl ops listed m=((xIx ops).filter fun x=>!listed.getD x false&&decide (x < m)).length:=by
    intro m
    induction m with
    | zero =>
     intro _
     rw [List.filter_eq_nil_iff.2 fun x _=>by simp]
     rfl
    | succ m ih =>
     intro hm
     have ih:=ih (by omega)
     unfold unl
     by_cases hcond:lateAt ops m=false∧listed.getD m false=false
     ·have hmX:=(heX m).1 (hheldX m (by omega) hcond.2 hcond.1)
      have:=filter_less (X:=xIx ops) (p:=fun x=>!listed.getD x false&&decide (x < m+1)) (q:=fun x=>!listed.getD x false&&decide (x < m)) (hndOf hpwX) hmX (by simp [hcond.2]) (fun x=>by
       by_cases hx:x=m
       ·subst hx;simp
       ·have h1:(x==m)=false:=by rw [beq_eq_false_iff_ne];exact hx
        rw [h1]
        have h2:decide (x < m)=decide (x < m+1):=decide_eq_decide.2 ⟨fun h=>by omega,fun h=>by omega⟩
        rw [h2];simp)
      rw [if_neg (by rw [hcond.1,hcond.2];simp)]
      omega
     ·have:((xIx ops).filter fun x=>!listed.getD x false&&decide (x < m+1))=((xIx ops).filter fun x=>!listed.getD x false&&decide (x < m)):=by
       refine List.filter_congr fun x hx=>?_
       by_cases hxm:x=m
       ·subst hxm
        have:listed.getD x false=true:=by
         cases hg:listed.getD x false with
         | true=>rfl
         | false=>exact absurd ⟨(hXs x hx).2,hg⟩ hcond
        rw [this];rfl
       ·have h2:decide (x < m)=decide (x < m+1):=decide_eq_decide.2 ⟨fun h=>by omega,fun h=>by omega⟩
        rw [h2]
      rw [this,←ih]
      have hc2:(lateAt ops m || listed.getD m false)=true:=by
       cases h1:lateAt ops m with
       | true=>rfl
       | false =>
        cases h2:listed.getD m false with
        | true=>rfl
        | false=>exact absurd ⟨h1,h2⟩ hcond
      rw [if_pos (by rw [Bool.or_eq_true] at hc2;exact hc2.symm)]
      omega
   rw [←hc,gen ops.size (Nat.le_refl _)]
   congr 1
   refine List.filter_congr fun x hx=>?_
   rw [decide_eq_true (hXs x hx).1,Bool.and_true]
  have hunl:∀ j,j < ops.size→listed.getD j false=false→j ∈ xIx ops∨j ∈ y1Ix ops∨j ∈ y2Ix ops:=fun j hj hl=>by
   cases hla:lateAt ops j with
   | false=>exact .inl ((heX j).1 (hheldX j hj hl hla))
   | true =>
    refine .inr ?_
    have hge:nHead ops≤j:=by
     rcases Nat.lt_or_ge j (nHead ops) with hlt|hge
     ·rw [hDI.heads j hlt] at hl;cases hl
     ·exact hge
    exact DP.part j ((hmem j).2 ⟨hj,D.kinds j hge hj hla⟩)
  have hlk:∀ k ∈ ks,listed.getD k false=false:=fun k hk=>hDI.onlyA k ((hmem k).1 hk).2
  have fin:=pend_any hL hC hC.par hQ D.nosel hQn (fun hj hp=>pure_yields hQn hj hp (hfa hj)) D.lt DP (hndOf hpwX) hXs hpwZ hZo (fun k hk=>(hmem k).1 hk) ((y1Ix ops).length+c) (y1Ix ops) listed Tm Bm a w (by rw [hfil]) hpwY (fun y h=>h) hsz hDI.closed
   hunl (fun y hy=>hlk y (DP.yk y hy).1) (fun z hz=>hlk z (DP.zk z hz).1) (fun x hx _=>by
    obtain ⟨o,v,e1,e2,e3⟩:=g4 x hx
    obtain ⟨_,o3,d3,f1,_,f2,_,_⟩:=DP.xk x hx
    rw [e1] at f1;injection f1 with f1;subst f1
    refine ⟨o,d3,v,e1,f2,e2,fun s hs=>?_⟩
    rw [f2] at e3
    simp only [Option.getD_some] at e3
    rw [e3,List.getD_eq_getElem?_getD,hs];rfl) hI g1
  have hlen:(y1Ix ops).length+(y2Ix ops).length=ks.length:=by
   have hperm:(y1Ix ops++y2Ix ops).Perm ks:=by
    refine (List.perm_ext_iff_of_nodup ?_ (hndOf hpw)).2 fun k=>?_
    ·rw [List.nodup_append]
     refine ⟨hndOf hpwY,hndOf hpwZ,fun u hu z hz e=>?_⟩
     subst e
     exact (DP.zk u hz).2 hu
    ·rw [List.mem_append]
     constructor
     ·rintro (h|h)
      ·exact (DP.yk k h).1
      ·exact (DP.zk k h).1
     ·exact DP.part k
   have:=hperm.length_eq
   rw [List.length_append] at this
   exact this
  rw [show (y1Ix ops).length+c+(y2Ix ops).length=c+ks.length by omega] at fin
  exact fin
 have phase:∀ c (listed:Array Bool)(a:Act)(w:World),unl ops listed ops.size=c→DI E w0 F Mo ops tr T0 B0 listed a w→wpAny E.P .any ops Q (c+ks.length) listed a w:=by
  intro c
  induction c with
  | zero =>
   intro listed a w hc hDI
   have hDI0:=hDI
   have hall:=unl_zero hc
   have hIm:Inv E.P w0 F Mo { T:=Tm,B:=Bm } a w:=mid (fun _=>False) listed a w hDI (fun k y h1 h2=>.inl (hall k (by have:=get_lt h1;rw [Array.length_toList] at this;exact this) (by rw [lateAt_of (toL h1)];exact h2))) Tm hTml (fun i s hs=>.inr ⟨hs,fun k y h=>h.elim⟩)
   obtain ⟨hcl,hsz,honly,hheads,_⟩:=hDI
   have hlist:∀ j,j < ops.size→(listed.getD j false=false ↔ j ∈ ks):=by
    intro j hj
    rw [hmem]
    refine ⟨fun h=>⟨hj,?_⟩,fun h=>honly j h.2⟩
    cases hl:lateAt ops j with
    | false=>rw [hall j hj hl] at h;cases h
    | true =>
     refine D.kinds j ?_ hj hl
     rcases Nat.lt_or_ge j (nHead ops) with hlt|hge
     ·rw [hheads j hlt] at h;cases h
     ·exact hge
   have htl':=D.tails
   rw [hks] at htl'
   rw [Nat.zero_add]
   cases hna:anyReg ops with
   | true =>
    have:=pend hna 0 listed a w hc hDI0 (fun j hj hl hlj=>by rw [hall j hj hlj] at hl;cases hl)
    rw [Nat.zero_add] at this
    exact this
   | false =>
   have htl':=htl'.2 hna
   unfold execT at t3
   rw [hna,cond_false] at t3
   exact any_tail D.nosel hQn (fun hj hp=>pure_yields hQn hj hp (hfa hj)) D.lt ks listed a w hpw (fun k hk=>(hmem k).1 hk) hsz hcl hlist htl' (wpOps_wpT ks a w (execOps_sound hL hC hQ ks _ hmap hIm t3))
  | succ c ih =>
   intro listed a w hc hDI
   rw [show c+1+ks.length=(c+ks.length)+1 by omega]
   have hsz:=hDI.size
   by_cases hone:∃ j,j < ops.size∧listed.getD j false=false∧lateAt ops j=false∧heldAt ops j=false
   rotate_left
   ·cases hna:anyReg ops with
    | false =>
     obtain ⟨k,k1,k2,k3,_⟩:=unl_ex (show unl ops listed ops.size≠0 by omega)
     exact absurd ⟨k,k1,k2,k3,by unfold heldAt;rw [hna,Bool.false_and]⟩ hone
    | true =>
     have:=pend hna (c+1) listed a w hc hDI (fun j hj hl hlj=>by
      cases hh:heldAt ops j with
      | true=>rfl
      | false=>exact absurd ⟨j,hj,hl,hlj,hh⟩ hone)
     rw [show c+1+ks.length=c+ks.length+1 by omega] at this
     exact this
   obtain ⟨k,⟨k1,k2,k3,k0⟩,k4'⟩:=least hone
   have k4:∀ j,j < k→lateAt ops j=false→heldAt ops j=false→listed.getD j false=true:=fun j hj hl hh=>by
    cases hg:listed.getD j false with
    | true=>rfl
    | false=>exact absurd ⟨by omega,hg,hl,hh⟩ (k4' j hj)
   have getb:∀ i (b:Bool),i < ops.size→listed.getD i b=listed.getD i false:=by
    intro i b hi
    rw [Array.getD_eq_getD_getElem?,Array.getD_eq_getD_getElem?,Array.getElem?_eq_getElem (by omega)];rfl
   have hko:ops[k]?=some ops[k]:=Array.getElem?_eq_getElem (by omega)
   have hklate:skipOp ops ops[k]=false:=by rw [←lateAt_of hko];exact k3
   have hr:∀ e ∈ (ops[k]).after,Region.binds .any e=true→listed.getD e.on false=true:=fun e he hb=>by
    rcases D.ahead k _ hko hklate e he hb with h|h
    ·exact hDI.heads _ h
    ·refine k4 _ (D.lt k _ hko e he hb) h ?_
     cases hha:heldAt ops e.on with
     | false=>rfl
     | true =>
      exfalso
      unfold heldAt at hha
      cases hna:anyReg ops with
      | true =>
       rw [hna,Bool.true_and] at hha
       have hkX:k ∉ xIx ops:=fun hx=>by
        have:heldAt ops k=true:=by unfold heldAt;rw [hna,Bool.true_and];simpa using hx
        rw [k0] at this;cases this
       have htA:=D.tails
       exact (htA.1 hna).no k _ hko k3 hkX e.on (by simpa using hha) e he hb rfl
      | false=>rw [hna,Bool.false_and] at hha;cases hha
   have hready:k ∈ Region.ready .any ops listed:=mem_ready.2 ⟨by rw [getb k true k1];exact k2,_,hko,hr⟩
   rcases D.free k k1 k3 with hkm|⟨hf,hfk⟩|hf
   ·-- all of the last ones wait for it
    refine ⟨(fun h0=>by rw [h0] at hready;cases hready),fun i hi=>?_⟩
    obtain ⟨h1,o,ho,h2⟩:=mem_ready.1 hi
    have hil:=(Array.getElem?_eq_some_iff.1 ho).1
    rw [getb i true hil] at h1
    have him:lateAt ops i=false:=by
     cases hl:lateAt ops i with
     | false=>rfl
     | true =>
      exfalso
      have hge:nHead ops≤i:=by
       rcases Nat.lt_or_ge i (nHead ops) with hlt|hge
       ·rw [hDI.heads i hlt] at h1;cases h1
       ·exact hge
      have:=closed_bef hDI.closed (hkm i hil (D.kinds i hge hil hl)) (fun o' ho' e he hb=>h2 e (by rw [ho] at ho';injection ho' with ho';rw [ho'];exact he) hb)
      rw [k2] at this;cases this
    obtain ⟨xi,hxi⟩:∃ xi,tr[i]?=some xi:=⟨_,List.getElem?_eq_getElem (by omega)⟩
    refine hDI.step hL hC D htl hfree t2 hclean ho (by rw [←lateAt_of ho];exact him) hxi h1 h2 fun a' w' hDI'=>ih _ a' w' ?_ hDI'
    have:=(unl_set (listed:=listed) (i:=i) (by omega) h1 him ops.size).2 hil
    omega
   ·-- one behind: it is taken first
    unfold freeP at hf
    rw [hko] at hf
    simp only [Bool.and_eq_true,List.all_eq_true,List.mem_range] at hf
    obtain ⟨hp,hap⟩:=hf
    obtain ⟨xi,hxi⟩:∃ xi,tr[k]?=some xi:=⟨_,List.getElem?_eq_getElem (by omega)⟩
    have hstep:=hDI.step (Q:=Q) hL hC D htl hfree t2 hclean hko hklate hxi k2 hr (K:=DI E w0 F Mo ops tr T0 B0 (listed.setIfInBounds k true)) fun a' w' hDI'=>hDI'
    obtain ⟨v,hy,hDI'⟩:=pure_yields hQn hko hp (hfa hko) hstep
    refine wpAny_take hko D.nosel ?_ (by simpa using hready) (fun ch a w h=>by cases hQn _ _ _ h) hy (ih _ _ _ ?_ hDI')
    ·unfold Region.free
     rw [hko]
     simp only [List.all_eq_true,List.mem_range,Bool.or_eq_true]
     intro j hj
     have:=hap j hj
     simp only [Bool.or_eq_true] at this
     rcases this with ((h|h)|h)|h
     ·exact .inl (.inl h)
     ·simp only [Bool.and_eq_true,Bool.not_eq_true'] at h
      cases hha:heldAt ops j with
      | false =>
       refine .inl (.inr ?_)
       rw [getb j true hj]
       exact k4 j (by simpa using h.1) h.2 hha
      | true =>
       right
       unfold heldAt at hha
       unfold heldFree at hfk
       cases hna:anyReg ops with
       | true =>
        rw [hna] at hha hfk
        rw [Bool.true_and] at hha
        rw [Bool.not_true,Bool.false_or] at hfk
        have hfk:=List.all_eq_true.1 hfk j (by simpa using hha)
        rw [hko,Array.getElem?_eq_getElem hj] at hfk
        rw [Array.getElem?_eq_getElem hj]
        simp only [Bool.or_eq_true,beq_iff_eq] at hfk ⊢
        rcases hfk with h'|h'|h'
        ·have:j < k:=by simpa using h.1
         omega
        ·refine .inl ?_
         rw [List.any_eq_true] at h'
         obtain ⟨e,he,hb⟩:=h'
         exact Array.any_eq_true'.2 ⟨e,by simpa using he,hb⟩
        ·exact .inr h'
       | false=>rw [hna,Bool.false_and] at hha;cases hha
     ·refine .inl (.inr ?_)
      rw [getb j true hj]
      exact hDI.heads j (by simpa using h)
     ·right
      rw [Array.getElem?_eq_getElem hj] at h ⊢
      simp only [Bool.or_eq_true] at h ⊢
      rcases h with h|h
      ·refine .inl ?_
       rw [List.any_eq_true] at h
       obtain ⟨e,he,hb⟩:=h
       exact Array.any_eq_true'.2 ⟨e,by simpa using he,hb⟩
      ·exact .inr h
    ·have:=(unl_set (listed:=listed) (i:=k) (by omega) k2 k3 ops.size).2 k1
     omega
   ·rw [k0] at hf;cases hf
 obtain ⟨hd0,β0,hR0,hk0⟩:=hI0
 have hnl:∀ (k:Nat)(o:Oper),ops.toList[k]?=some o→listed0.getD k false=true→skipOp ops o=true:=by
  intro k o ho hl
  have hk:k < ops.size:=by have:=get_lt ho;rwa [Array.length_toList] at this
  rw [hl0 k hk] at hl
  have:=(D.head k (by simpa using hl)).1
  rwa [lateAt_of (toL ho)] at this
 have hDI:DI E w0 F Mo ops tr T0 B0 listed0 a w:=by
  refine ⟨hlc0,hls0,fun j hj=>?_,fun j hj=>?_,hd0,T0,B0,β0,rfl,fun _ _=>rfl,?_,fun _ _ _ h=>h,?_,fun d ob _ h=>.inl h,⟨rfl,.inl ⟨rfl,fun k x ob hx hl hm=>?_⟩⟩,hR0,hk0⟩
  ·rcases Nat.lt_or_ge j ops.size with h|h
   ·rw [hl0 j h]
    rcases Nat.lt_or_ge j (nHead ops) with h2|h2
    ·rw [(D.head j h2).2.1] at hj;cases hj
    ·simpa using h2
   ·rw [Array.getD_eq_getD_getElem?,Array.getElem?_eq_none (by omega)];rfl
  ·rw [hl0 j (by omega)];simpa using hj
  ·intro k o x i ho _ hl hd
   have:=hnl k o ho hl
   unfold dstA at hd
   rw [this] at hd;cases hd
  ·intro k x d ob _ hx hl hm
   have hkl:k < ops.toList.length:=by have:=get_lt hx;rw [Array.length_toList];omega
   have hak:=List.getElem?_eq_getElem hkl
   rw [(t2 k _ x hak hx).1 (hnl k _ hak hl)] at hm
   simp at hm
  ·have hkl:k < ops.toList.length:=by have:=get_lt hx;rw [Array.length_toList];omega
   have hak:=List.getElem?_eq_getElem hkl
   rw [(t2 k _ x hak hx).1 (hnl k _ hak hl)] at hm
   simp at hm
 have hcount:unl ops listed0 ops.size+ks.length=ops.size - nHead ops:=by
  have gen:∀ n,n≤ops.size→unl ops listed0 n+((List.range n).filter fun k=>tailAt ops k).length=n - nHead ops:=by
   intro n
   induction n with
   | zero=>intro _;simp [unl]
   | succ n ih =>
    intro hn
    have:=ih (by omega)
    unfold unl
    rw [List.range_succ,List.filter_append,List.length_append,hl0 n (by omega)]
    rcases Nat.lt_or_ge n (nHead ops) with hlt|hge
    ·have h1:=D.head n hlt
     rw [if_pos (.inl (by simpa using hlt))]
     simp [h1.2.1]
     omega
    ·cases hl:lateAt ops n with
     | true =>
      have:=D.kinds n hge (by omega) hl
      rw [if_pos (.inr rfl)]
      simp [this]
      omega
     | false =>
      have:=tailAt_late hl
      rw [if_neg (by simp;omega)]
      simp [this]
      omega
  rw [←hks]
  exact gen ops.size (Nat.le_refl _)
 have:=phase _ listed0 a w rfl hDI
 rw [hcount] at this
 exact this

end
end Go.X
namespace Go.X
open Go

def codeOkB:Code→Bool
 | .region _ ops true=>dOk ops
 | .seq x y=>codeOkB x&&codeOkB y
 | .cond _ x y=>codeOkB x&&codeOkB y
 | .block _ c=>codeOkB c
 | .loop c=>codeOkB c
 | .scope c=>codeOkB c
 | _=>true

theorem drawsOk_of {E:Env}(hL:laidOutB E.P=true)(hC:OracleOk E.P E.C)(hm:E.P.follows .mixedOrders=true):∀ {c:Code},codeOkB c=true→DrawsOk E c
 | .region _ ops true,h=>draw_ok hL hC hm h
 | .region _ ops false,_=>trivial
 | .seq x y,h=>by
  simp only [codeOkB,Bool.and_eq_true] at h
  exact ⟨drawsOk_of hL hC hm h.1,drawsOk_of hL hC hm h.2⟩
 | .cond _ x y,h=>by
  simp only [codeOkB,Bool.and_eq_true] at h
  exact ⟨drawsOk_of hL hC hm h.1,drawsOk_of hL hC hm h.2⟩
 | .block _ c,h=>drawsOk_of (c:=c) hL hC hm h
 | .loop c,h=>drawsOk_of (c:=c) hL hC hm h
 | .scope c,h=>drawsOk_of (c:=c) hL hC hm h
 | .skip,_=>trivial
 | .exit _,_=>trivial
 | .ret,_=>trivial
 | .rangeFunc _ _ _ _,_=>trivial
 | .label _,_=>trivial
 | .goto _,_=>trivial
 | .refuse _,_=>trivial

def drawsB (P:Program)(okF:FuncId→Bool):Bool :=
 (List.range P.funcs.size).all fun f=>!okF f || (match P.funcs[f]? with|some fn=>(match fn.body with|some c=>codeOkB c|none=>true)|none=>true)

end Go.X
namespace Go.X
open Go

theorem kept_of_old {w w':World}(may:MemPlace→Prop)(hos:w'.os=w.os)(hout:w'.output=w.output)(h:∀ i,i < w.heap.size→w'.heap[i]?=w.heap[i]?):w.keptBut w' may:=by
 refine ⟨hos,hout,fun i hi=>?_⟩
 rw [h i hi]
 exact (World.keptBut_refl w may).2.2 i hi

end Go.X
namespace Go.X
open Go

theorem unpair_bind (K:SV→Obs→Option Out)(h:Out→Option Out)(y:Out):unpair (fun s os=>(K s os).bind h) y=(unpair K y).bind h:=by
 unfold unpair
 split <;> rfl

theorem opQ_bind (E:Env)(hp:Par E.C)(h:Out→Option Out)(o:Oper)(st:St)(K:SV→Obs→Option Out):opQ E o st (fun s os=>(K s os).bind h)=(opQ E o st K).bind h:=by
 rw [opQ_param E hp o st K,opQ_param E hp o st (fun s os=>(K s os).bind h)]
 cases opQ E o st pairK with
 | none=>rfl
 | some y=>exact unpair_bind K h y

theorem ite_bind {c:Prop} [Decidable c](x y:Option Out)(h:Out→Option Out):(if c then x else y).bind h=if c then x.bind h else y.bind h:=by split <;> rfl

theorem callE_bind (E:Env)(hp:Par E.C)(h:Out→Option Out)(o:Oper)(st:St)(f:FuncId)(args:List SV)(K:St→Option Out):callE E o st f args (fun st=>(K st).bind h)=(callE E o st f args K).bind h:=by
 unfold callE
 cases E.P.funcs[f]? with
 | none=>rfl
 | some fn =>
  simp only [Bool.cond_eq_ite]
  split
  ·rw [ite_bind]
   split
   ·refine Par.bind hp fun r=>?_
    split <;> rfl
   ·rfl
  ·rfl

theorem opE0_bind (E:Env)(hp:Par E.C)(h:Out→Option Out)(o:Oper)(st:St)(K:St→Option Out):opE0 E o st (fun st=>(K st).bind h)=(opE0 E o st K).bind h:=by
 unfold opE0
 simp only [Bool.cond_eq_ite]
 split
 ·repeat' split
  all_goals first
   | rfl
   | (simp only [ite_bind];done)
 ·repeat' split
  all_goals first
   | rfl
   | (simp only [ite_bind];done)
 ·repeat' split
  all_goals first
   | rfl
   | (simp only [ite_bind];done)
 ·repeat' split
  all_goals first
   | rfl
   | (simp only [ite_bind];done)
 ·exact callE_bind E hp h o st _ _ K
 ·split
  ·exact callE_bind E hp h o st _ _ K
  ·rfl
 ·rfl

theorem opEH_bind (E : Env) (h : Out → Option Out) (o : Oper) (st : St) (K : St → Option Out) : opEH E o st (fun st => (K st).bind h) = (opEH E o st K).bind h := by
  unfold opEH
  simp only [Bool.cond_eq_ite]
  split
  all_goals
    (repeat' split
     all_goals first
       | rfl
       | (simp only [ite_bind]; done)
       | (simp only [ite_bind]; rfl))
theorem opE_bind (E:Env)(hp:Par E.C)(h:Out→Option Out)(o:Oper)(st:St)(K:St→Option Out):opE E o st (fun st=>(K st).bind h)=(opE E o st K).bind h:=by
 unfold opE
 cases hpEff E o st with
 | false=>exact opE0_bind E hp h o st K
 | true =>
  cases Obs.hasH st.B with
  | false=>rfl
  | true=>exact opEH_bind E h o st K

theorem opX_bind (E:Env)(hp:Par E.C)(h:Out→Option Out)(o:Oper)(st:St)(K:St→Option Out):opX E o st (fun st=>(K st).bind h)=(opX E o st K).bind h:=by
 unfold opX
 simp only [Bool.cond_eq_ite]
 split
 ·rfl
 ·split
  ·exact opE_bind E hp h o _ K
  ·exact opQ_bind E hp h o _ (fun s os=>K ((St.lay _ os).put o.dst s))

theorem execOps_bind (E:Env)(hp:Par E.C)(h:Out→Option Out)(ops:Array Oper)(K:St→Option Out):∀ (l:List Oper)(st:St),execOps E ops l (fun st=>(K st).bind h) st=(execOps E ops l K st).bind h
 | [],st=>rfl
 | o :: l,st=>by
  have ih:execOps E ops l (fun st=>(K st).bind h)=fun st=>(execOps E ops l K st).bind h:=funext fun st=>execOps_bind E hp h ops K l st
  unfold execOps
  cases o.guard with
  | none=>simp only [ih];exact opX_bind E hp h o _ _
  | some gw =>
   obtain ⟨j,want⟩:=gw
   simp only
   cases (ops[j]?).bind (·.dst) with
   | none=>rfl
   | some dj =>
    simp only [Bool.cond_eq_ite]
    split
    ·split
     ·rw [ih];exact opX_bind E hp h o _ _
     ·rw [ih]
    ·rw [ih]
    ·rfl

theorem stepA_bind (E:Env)(hp:Par E.C)(h:Out→Option Out)(ops:Array Oper)(o:Oper)(st:St)(os:Obs)(K:St→Obs→Option Out):stepA E ops o st os (fun st os=>(K st os).bind h)=(stepA E ops o st os K).bind h:=by
 unfold stepA
 cases linOf ops o with
 | some a =>
  simp only
  split
  ·rename_i u d _
   cases d==a with
   | true =>
    simp only [cond_true]
    split <;> rfl
   | false=>rfl
  ·rfl
 | none =>
 simp only
 cases (isE E o st || !bareAlloc E o) with
 | true =>
  simp only [cond_true]
  cases stA E o st os <;> rfl
 | false =>
  simp only [cond_false]
  rw [←opQ_bind E hp h]
  congr 1
  funext s l
  split
  ·rfl
  ·rename_i d ob
   cases d==HL with
   | true=>cases (Obs.hasH st.B&&os.all fun x=>!(x.1==HL)) <;> rfl
   | false=>cases (o.dst==some d&&laysOp o&&d.blt lowB) <;> rfl
  ·rfl

theorem execA_bind (E:Env)(hp:Par E.C)(h:Out→Option Out)(ops:Array Oper)(K:St→Obs→Option Out):∀ (l:List Oper)(st:St)(os:Obs),execA E ops l (fun st os=>(K st os).bind h) st os=(execA E ops l K st os).bind h
 | [],st,os=>rfl
 | o :: l,st,os=>by
  have ih:execA E ops l (fun st os=>(K st os).bind h)=fun st os=>(execA E ops l K st os).bind h:=funext fun st=>funext fun os=>execA_bind E hp h ops K l st os
  unfold execA
  cases o.guard with
  | none=>simp only [ih];exact stepA_bind E hp h ops o st os _
  | some gw =>
   obtain ⟨j,want⟩:=gw
   simp only
   cases (ops[j]?).bind (·.dst) with
   | none=>rfl
   | some dj =>
    simp only [Bool.cond_eq_ite]
    split
    ·split
     ·rw [ih];exact stepA_bind E hp h ops o _ _ _
     ·rw [ih]
    ·rw [ih]
    ·rfl

theorem reEv_bind (E:Env)(hp:Par E.C)(h:Out→Option Out)(ops:Array Oper)(K:St→Option Out):∀ (l:List Nat)(st:St),reEv E ops l (fun st=>(K st).bind h) st=(reEv E ops l K st).bind h
 | [],_=>rfl
 | j :: l,st=>by
  unfold reEv
  cases ops[j]? with
  | none=>rfl
  | some o =>
   simp only
   rw [←opQ_bind E hp]
   congr 1
   funext v os
   cases os.isEmpty&&svEq v (st.T.getD (o.dst.getD 0) .dead) with
   | true=>exact reEv_bind E hp h ops K l _
   | false=>rfl
theorem execY_bind (E:Env)(hp:Par E.C)(h:Out→Option Out)(ops:Array Oper)(bf:Array Nat)(X:List Nat)(K:St→Option Out):∀ (l:List Nat)(st:St),execY E ops bf X l (fun st=>(K st).bind h) st=(execY E ops bf X l K st).bind h
 | [],_=>rfl
 | j :: l,st=>by
  unfold execY
  cases ops[j]? with
  | none=>rfl
  | some o =>
   simp only
   rw [←opX_bind E hp]
   congr 1
   funext st1
   rw [←reEv_bind E hp]
   congr 1
   funext st2
   exact execY_bind E hp h ops bf X K l st2
theorem execP_bind (E:Env)(hp:Par E.C)(h:Out→Option Out)(ops:Array Oper)(K:St→Option Out)(st:St):execP E ops (fun st=>(K st).bind h) st=(execP E ops K st).bind h:=by
 unfold execP
 rw [←reEv_bind E hp]
 congr 1
 funext st1
 rw [←execY_bind E hp]
 congr 1
 funext st2
 exact execOps_bind E hp h ops K _ st2

theorem execT_bind (E:Env)(hp:Par E.C)(h:Out→Option Out)(ops:Array Oper)(K:St→Option Out)(L:List Oper)(st:St):execT E ops L (fun st=>(K st).bind h) st=(execT E ops L K st).bind h:=by
 unfold execT
 cases anyReg ops with
 | true=>exact execP_bind E hp h ops K st
 | false=>exact execOps_bind E hp h ops K _ _

theorem execD_bind (E:Env)(hp:Par E.C)(h:Out→Option Out)(ops:Array Oper)(K:St→Option Out)(st:St):execD E ops (fun st=>(K st).bind h) st=(execD E ops K st).bind h:=by
 unfold execD
 cases faOk E ops with
 | false=>rfl
 | true =>
 simp only [Bool.not_true,cond_false]
 rw [←execOps_bind E hp h]
 congr 1
 funext st0
 rw [←execA_bind E hp h]
 congr 1
 funext st1 os
 cases linClean (linT ops) _ st1.T st1.B os with
 | true =>
  simp only [cond_true]
  exact execT_bind E hp h ops K _ _
 | false=>rfl

theorem loopN_bind (h:Out→Option Out){body:Kont→St→Option Out}(hb:∀ K st,body (fun e st=>(K e st).bind h) st=(body K st).bind h)(K:Kont):∀ (n:Nat)(st:St),loopN body (fun e st=>(K e st).bind h) n st=(loopN body K n st).bind h
 | 0,st=>rfl
 | n+1,st=>by
  unfold loopN
  rw [←hb]
  congr 1
  funext e st
  cases e with
  | normal=>exact loopN_bind h hb K n st
  | _=>rfl

theorem exec_bind (E:Env)(hp:Par E.C)(h:Out→Option Out):∀ (c:Code)(K:Kont)(st:St),exec E c (fun e st=>(K e st).bind h) st=(exec E c K st).bind h
 | .skip,K,st=>rfl
 | .region _ ops draw,K,st=>by
  unfold exec
  cases draw with
  | true=>exact execD_bind E hp h ops (K .normal) st
  | false=>exact execOps_bind E hp h ops (K .normal) _ st
 | .seq a b,K,st=>by
  unfold exec
  rw [←exec_bind E hp h a]
  congr 1
  funext e st
  cases e with
  | normal=>exact exec_bind E hp h b K _
  | _=>rfl
 | .cond c a b,K,st=>by
  unfold exec
  split
  ·rename_i t _
   cases t with
   | true=>exact exec_bind E hp h a K _
   | false=>exact exec_bind E hp h b K _
  ·rfl
 | .block id c,K,st=>by
  unfold exec
  rw [←exec_bind E hp h c]
  congr 1
  funext e st
  unfold blockK
  split
  ·rename_i i
   cases hi:i==id <;> rfl
  ·rfl
 | .loop c,K,st=>by
  unfold exec
  refine loopN_bind h (body:=fun K st=>exec E c (purgeK E c K) st) (fun K st=>?_) K _ _
  show exec E c _ st=_
  rw [←exec_bind E hp h c]
  congr 1
  funext e st
  cases e <;> rfl
 | .exit id,K,st=>rfl
 | .scope c,K,st=>by
  unfold exec
  exact exec_bind E hp h c K st
 | .ret,K,st=>rfl
 | .rangeFunc _ _ _ _,K,st=>rfl
 | .label _,K,st=>rfl
 | .goto _,K,st=>rfl
 | .refuse _,K,st=>rfl

end Go.X
