/- The interpreter X: texts 43 to 45; no statement of the seat is proved here. -/
import Derived.Test.YtmdlhnojpcnnbaaXG
import Derived.Test.YtmdlhnojpcnnbaaRows
import Derived.ChangeArms
import Derived.ChangeOld
import Derived.WideKeyArgs
import Derived.Lib.Bytealg
import Derived.Laws.Externs
namespace Go.X
open Go

def plainTs (P:Program)(T:List TypeId):Bool:=T.all fun t=>decide (t < P.types.size)&&match P.underlying t with
 | some (.int _)|some .bool|some .string|some (.float _)=>true
 | some (.slice e)|some (.pointer e)=>T.contains e
 | some (.struct fs)=>fs.toList.all fun f=>T.contains f.type
 | some (.array _ e)=>T.contains e
 | _=>false

mutual
def PV.size:PV→Nat
 | .str s=>s.length+1
 | .agg l=>PV.sizes l+1
 | .list l=>PV.sizes l+1
 | .ref p=>PV.size p+1
 | _=>1
def PV.sizes:List PV→Nat
 | []=>0
 | p :: l=>PV.size p+PV.sizes l
end
abbrev bulk {H:Type}(d:DataW H):Nat:=Go.Proofs.Ytmdlhnojpcnnbaa.Rows.uptoBulk d
abbrev bulks {H:Type}(l:List (DataW H)):Nat:=Go.Proofs.Ytmdlhnojpcnnbaa.Rows.uptoBulkAll l

theorem sizes_le {H:Type}:∀ (l:List PV)(m:List (DataW H)),l.length=m.length→(∀ (i:Nat)(p:PV)(d:DataW H),l[i]?=some p→m[i]?=some d→p.size≤bulk d)→PV.sizes l≤bulks m
 | [],m,_,_=>by simp [PV.sizes]
 | p :: l,[],h,_=>by simp at h
 | p :: l,d :: m,h,hi=>by
  have h0:=hi 0 p d rfl rfl
  have ih:=sizes_le l m (by simpa using h) (fun i p d h1 h2=>hi (i+1) p d (by simpa using h1) (by simpa using h2))
  simp only [PV.sizes,bulks,Go.Proofs.Ytmdlhnojpcnnbaa.Rows.uptoBulkAll]
  simp only [bulk,bulks] at h0 ih
  omega

section
variable {H : Type} {enc : TypeId × Value → H} {P : Program} {w : World} {spare : Nat → Bool} {held : Bool} {T : List TypeId}

theorem At.of_cells {M:Nat→Prop}{base:Nat}{a:Addr}{n:Nat}{cs:List Value}(hM:∀ b,¬ M b)(h:w.cells? base a n=some cs):cs.length=n∧At w M a cs:=by
 unfold World.cells? at h
 split at h
 ·obtain ⟨h1,h2⟩:=X.mapM_some h
  refine ⟨by simpa using h1,fun j v hj=>⟨hM _,h2 j j v ?_ hj⟩⟩
  have:=get_lt hj
  rw [h1,List.length_range] at this
  rw [List.getElem?_range this]
 ·cases h

theorem rd_of_trod {M:Nat→Prop}(hM:∀ b,¬ M b)(hT:plainTs P T=true):∀ (n:Nat)(t:TypeId)(cs:List Value)(x:DataW H × List MemPlace),T.contains t=true→DataW.trod enc P w 0 spare held n t cs=some x→∃ p,Rd P w M t p cs∧p.size≤bulk x.1
 | 0,t,cs,x,_,h=>by cases h
 | n+1,t,cs,x,ht,h=>by
  have ht':=List.all_eq_true.1 hT t (by simpa using ht)
  simp only [Bool.and_eq_true,decide_eq_true_eq] at ht'
  obtain ⟨hlt,hk⟩:=ht'
  cases hu:P.underlying t with
  | none=>rw [hu] at hk;cases hk
  | some d =>
   rw [hu] at hk
   cases d with
   | int k =>
    obtain ⟨m,rfl,rfl,hw⟩:=DataW.trod_int hu h
    exact ⟨_,.int hu hw,by simp [PV.size,bulk,Go.Proofs.Ytmdlhnojpcnnbaa.Rows.uptoBulk]⟩
   | bool =>
    unfold DataW.trod at h
    rw [hu] at h
    split at h <;> simp_all
    subst h
    exact ⟨_,.bool hu,by simp [PV.size,bulk,Go.Proofs.Ytmdlhnojpcnnbaa.Rows.uptoBulk]⟩
   | string =>
    obtain ⟨s,rfl,rfl,hs⟩:=DataW.trod_string hu h
    exact ⟨_,.str hu hs,by simp [PV.size,chars,bulk,Go.Proofs.Ytmdlhnojpcnnbaa.Rows.uptoBulk]⟩
   | float k =>
    unfold DataW.trod at h
    rw [hu] at h
    split at h <;> simp_all
    obtain ⟨hw,rfl⟩:=h
    exact ⟨_,.flt hu hw.2,by simp [PV.size,bulk,Go.Proofs.Ytmdlhnojpcnnbaa.Rows.uptoBulk]⟩
   | slice e =>
    rcases DataW.trod_slice hu h with ⟨rfl,rfl⟩|⟨a,len,cap,elems,rest,m,hm,rfl,rfl,_,hlc,hcm,hel,hget,_⟩
    ·exact ⟨_,.nilSlice hu,by simp [PV.size,PV.sizes,bulk,Go.Proofs.Ytmdlhnojpcnnbaa.Rows.uptoBulk]⟩
    ·replace hm:n=m:=by omega
     subst hm
     have hone:∀ i,i < len→∃ cs' p,w.cells? 0 (a.add (i * P.cellsOf e)) (P.cellsOf e)=some cs'∧Rd P w M e p cs'∧∀ y,elems[i]?=some y→p.size≤bulk y.1:=by
      intro i hi
      have:=hget i hi
      rw [List.getElem?_eq_getElem (by omega)] at this
      simp only [Option.bind_eq_some_iff] at this
      obtain ⟨cs',h1,h2⟩:=this
      obtain ⟨p,hp,hs⟩:=rd_of_trod hM hT n e cs' _ hk h2
      exact ⟨cs',p,h1,hp,fun y hy=>by rw [List.getElem?_eq_getElem (by omega)] at hy;injection hy with hy;subst hy;exact hs⟩
     have hall:∀ i:Nat,∃ y:List Value × PV,i < len→w.cells? 0 (a.add (i * P.cellsOf e)) (P.cellsOf e)=some y.1∧Rd P w M e y.2 y.1∧∀ z,elems[i]?=some z→y.2.size≤bulk z.1:=by
      intro i
      by_cases hi:i < len
      ·obtain ⟨cs',p,h1,h2⟩:=hone i hi
       exact ⟨(cs',p),fun _=>⟨h1,h2⟩⟩
      ·exact ⟨([],.nil),fun h=>absurd h hi⟩
     refine ⟨.list ((List.range len).map fun i=>((hall i).choose).2),.slice (cs:=fun i=>((hall i).choose).1) hu (by simp) hlc hcm (fun i hi=>?_) (fun i p hp=>?_),?_⟩
     ·obtain ⟨h1,_⟩:=(hall i).choose_spec hi
      exact At.of_cells hM h1
     ·have hi:=get_lt hp
      rw [List.length_map,List.length_range] at hi
      rw [List.getElem?_map,List.getElem?_range hi] at hp
      injection hp with hp
      subst hp
      exact ((hall i).choose_spec hi).2.1
     ·have:=sizes_le ((List.range len).map fun i=>((hall i).choose).2) (elems.map (·.1)) (by simp [hel]) (fun i p d hp hd=>by
       have hi:=get_lt hp
       rw [List.length_map,List.length_range] at hi
       rw [List.getElem?_map,List.getElem?_range hi] at hp
       injection hp with hp
       subst hp
       rw [List.getElem?_map] at hd
       cases hz:elems[i]? with
       | none=>rw [hz] at hd;cases hd
       | some z =>
        rw [hz] at hd
        injection hd with hd
        subst hd
        exact ((hall i).choose_spec hi).2.2 z hz)
      simp only [PV.size,bulk,Go.Proofs.Ytmdlhnojpcnnbaa.Rows.uptoBulk]
      simp only [bulks] at this
      omega
   | pointer e =>
    rcases DataW.trod_pointer hu h with ⟨rfl,rfl⟩|⟨a,cs',y,m,hm,rfl,rfl,h1,h2⟩
    ·exact ⟨_,.nilPtr hu,by simp [PV.size,bulk,Go.Proofs.Ytmdlhnojpcnnbaa.Rows.uptoBulk]⟩
    ·replace hm:n=m:=by omega
     subst hm
     obtain ⟨p,hp,hs⟩:=rd_of_trod hM hT n e cs' _ hk h2
     obtain ⟨g1,g2⟩:=At.of_cells hM h1
     exact ⟨_,.ref hu g1 g2 hp,by simp only [PV.size,bulk,Go.Proofs.Ytmdlhnojpcnnbaa.Rows.uptoBulk] at hs ⊢;omega⟩
   | struct fs =>
    obtain ⟨xs,m,hm,rfl,hl,hxs,hget⟩:=DataW.trod_struct hu h
    replace hm:n=m:=by omega
    subst hm
    have hall:∀ i:Nat,∃ p:PV,∀ f,fs[i]?=some f→Rd P w M f.type p ((cs.drop f.offset).take (P.cellsOf f.type))∧∀ y,xs[i]?=some y→p.size≤bulk y.1:=by
     intro i
     cases hf:fs[i]? with
     | none=>exact ⟨.nil,fun f h=>by cases h⟩
     | some f =>
      have hi:i < xs.length:=by
       rw [hxs]
       rcases Nat.lt_or_ge i fs.size with h|h
       ·exact h
       ·rw [Array.getElem?_eq_none h] at hf;cases hf
      have:=hget i f hf
      rw [List.getElem?_eq_getElem hi] at this
      obtain ⟨p,hp,hs⟩:=rd_of_trod hM hT n f.type _ _ (List.all_eq_true.1 hk f (by simpa using Array.mem_of_getElem? hf)) this
      exact ⟨p,fun g hg=>by injection hg with hg;subst hg;exact ⟨hp,fun y hy=>by rw [List.getElem?_eq_getElem hi] at hy;injection hy with hy;subst hy;exact hs⟩⟩
    refine ⟨.agg ((List.range fs.size).map fun i=>(hall i).choose),.struct hu hlt (by simp) hl (fun i f p hf hp=>?_),?_⟩
    ·have hi:=get_lt hp
     rw [List.length_map,List.length_range] at hi
     rw [List.getElem?_map,List.getElem?_range hi] at hp
     injection hp with hp
     subst hp
     exact ((hall i).choose_spec f hf).1
    ·have:=sizes_le ((List.range fs.size).map fun i=>(hall i).choose) (xs.map (·.1)) (by simp [hxs]) (fun i p d hp hd=>by
      have hi:=get_lt hp
      rw [List.length_map,List.length_range] at hi
      rw [List.getElem?_map,List.getElem?_range hi] at hp
      injection hp with hp
      subst hp
      rw [List.getElem?_map] at hd
      cases hz:xs[i]? with
      | none=>rw [hz] at hd;cases hd
      | some z =>
       rw [hz] at hd
       injection hd with hd
       subst hd
       exact ((hall i).choose_spec _ (Array.getElem?_eq_getElem hi)).2 z hz)
     simp only [PV.size,bulk,Go.Proofs.Ytmdlhnojpcnnbaa.Rows.uptoBulk]
     simp only [bulks] at this
     omega
   | array m e =>
    unfold DataW.trod at h
    rw [hu] at h
    simp only at h
    split at h
    ·rename_i hl
     simp only [Option.map_eq_some_iff] at h
     obtain ⟨xs,h1,rfl⟩:=h
     obtain ⟨g1,g2⟩:=X.mapM_some h1
     rw [List.length_range] at g1
     have hall:∀ i:Nat,∃ p:PV,i < m→Rd P w M e p ((cs.drop (i * P.cellsOf e)).take (P.cellsOf e))∧∀ y,xs[i]?=some y→p.size≤bulk y.1:=by
      intro i
      by_cases hi:i < m
      ·have:=g2 i i _ (by rw [List.getElem?_range hi]) (List.getElem?_eq_getElem (by omega:i < xs.length))
       obtain ⟨p,hp,hs⟩:=rd_of_trod hM hT n e _ _ hk this
       exact ⟨p,fun _=>⟨hp,fun y hy=>by rw [List.getElem?_eq_getElem (by omega)] at hy;injection hy with hy;subst hy;exact hs⟩⟩
      ·exact ⟨.nil,fun h=>absurd h hi⟩
     refine ⟨.agg ((List.range m).map fun i=>(hall i).choose),.arr hu hlt (by simp) hl (fun i p hp=>?_),?_⟩
     ·have hi:=get_lt hp
      rw [List.length_map,List.length_range] at hi
      rw [List.getElem?_map,List.getElem?_range hi] at hp
      injection hp with hp
      subst hp
      exact ((hall i).choose_spec hi).1
     ·have:=sizes_le ((List.range m).map fun i=>(hall i).choose) (xs.map (·.1)) (by simp [g1]) (fun i p d hp hd=>by
       have hi:=get_lt hp
       rw [List.length_map,List.length_range] at hi
       rw [List.getElem?_map,List.getElem?_range hi] at hp
       injection hp with hp
       subst hp
       rw [List.getElem?_map] at hd
       cases hz:xs[i]? with
       | none=>rw [hz] at hd;cases hd
       | some z =>
        rw [hz] at hd
        injection hd with hd
        subst hd
        exact ((hall i).choose_spec hi).2 z hz)
      simp only [PV.size,bulk,Go.Proofs.Ytmdlhnojpcnnbaa.Rows.uptoBulk]
      simp only [bulks] at this
      omega
    ·cases h
   | _=>cases hk

theorem pack_of_wide {t:TypeId}{v:Value}{p:PV}{M:Nat→Prop}{base:Nat}(h:Value.okWide P w .any base t v)(hr:Rd P w M t p v.cells.toList):Pack P t v v.cells.toList:=by
 unfold Value.okWide at h
 unfold Pack
 by_cases ha:isAggT P t=true
 ·rw [if_pos ha]
  unfold isAggT at ha
  split at ha
  ·rename_i fs hu
   rw [hu] at h
   obtain ⟨cs,rfl,_⟩:=h
   simp [Value.cells]
  ·rename_i m e hu
   rw [hu] at h
   obtain ⟨cs,rfl,_⟩:=h
   simp [Value.cells]
  ·cases ha
 ·have ha':isAggT P t=false:=by simpa using ha
  rw [if_neg ha]
  obtain ⟨u,h1,h2,h3⟩:=hr.len ha'
  rw [h1]
  congr 1
  cases v with
  | agg cs =>
   exfalso
   unfold isAggT at ha'
   obtain ⟨d,hu⟩:=hr.desc
   rw [hu] at h ha'
   cases d with
   | struct _=>cases ha'
   | array _ _=>cases ha'
   | _=>simp only [Cell.okWide,Cell.ok,hu] at h
  | _=>simp only [Value.cells] at h1;injection h1 with h1;exact h1.symm

def Args (P:Program)(w:World)(ts:List TypeId)(vs:List Value)(ps:List PV):Prop :=
 vs.length=ts.length∧ps.length=ts.length∧∀ (i:Nat)(t:TypeId)(v:Value)(p:PV),ts[i]?=some t→vs[i]?=some v→ps[i]?=some p→∃ cs,Pack P t v cs∧Rd P w (fun _=>False) t p cs

theorem args_of (hT:plainTs P T=true){base:Nat}:∀ {ts:List TypeId}{vs:List Value}{ds:List (DataW H)}{qs:List MemPlace},(∀ t ∈ ts,T.contains t=true)→DataW.TrodAll enc P w 0 spare held ts vs ds qs →
  (∀ (j:Nat) t v,ts[j]?=some t→vs[j]?=some v→Value.okWide P w .any base t v)→ds.length=ts.length∧∃ ps,Args P w ts vs ps∧PV.sizes ps≤bulks ds
 | [],[],[],_,_,_,_=>⟨rfl,[],⟨rfl,rfl,fun i t v p h=>by simp at h⟩,by simp [PV.sizes]⟩
 | t :: ts,v :: vs,d :: ds,qs,hts,⟨p,q,h1,h2,_⟩,hok=>by
  obtain ⟨g0,ps,⟨g1,g2,g3⟩,g4⟩:=args_of hT (fun t ht=>hts t (List.mem_cons.2 (.inr ht))) h2 (fun j t v ht hv=>hok (j+1) t v (by simpa using ht) (by simpa using hv))
  obtain ⟨n,hn⟩:=h1
  obtain ⟨x,hx,hs⟩:=rd_of_trod (M:=fun _=>False) (fun b h=>h) hT n t _ _ (hts t (List.mem_cons.2 (.inl rfl))) hn
  refine ⟨by simp [g0],x :: ps,⟨by simp [g1],by simp [g2],fun i t' v' p' ht hv hp=>?_⟩,by simp only [PV.sizes,bulks,Go.Proofs.Ytmdlhnojpcnnbaa.Rows.uptoBulkAll];simp only [bulk,bulks] at hs g4;omega⟩
  cases i with
  | zero =>
   replace ht:t=t':=by simpa using ht
   replace hv:v=v':=by simpa using hv
   replace hp:x=p':=by simpa using hp
   subst ht;subst hv;subst hp
   exact ⟨_,pack_of_wide (hok 0 t v rfl rfl) hx,hx⟩
  | succ i=>exact g3 i t' v' p' (by simpa using ht) (by simpa using hv) (by simpa using hp)
 | [],_ :: _,_,_,_,h,_=>h.elim
 | [],[],_ :: _,_,_,h,_=>h.elim
 | _ :: _,[],_,_,_,h,_=>h.elim
 | _ :: _,_ :: _,[],_,_,h,_=>h.elim

theorem stays_all (hl:laidOutB P=true){w':World}(hold:∀ i,i < w.heap.size→w'.heap[i]?=w.heap[i]?):∀ {ts:List TypeId}{vs:List Value}{ds:List (DataW H)}{qs:List MemPlace},(∀ t ∈ ts,P.readableRec t=true∧t < P.types.size) →
  (∀ p ∈ qs,p.block < w.heap.size)→DataW.TrodAll enc P w 0 (fun _=>true) true ts vs ds qs→DataW.TrodAll enc P w' 0 (fun b=>decide (b < w.heap.size)) true ts vs ds qs
 | [],[],[],_,_,_,h=>h
 | t :: ts,v :: vs,d :: ds,_,hts,hlt,⟨p,q,h1,h2,e⟩=>by
  subst e
  refine ⟨p,q,?_,stays_all hl hold (fun t ht=>hts t (List.mem_cons.2 (.inr ht))) (fun x hx=>hlt x (List.mem_append_right _ hx)) h2,rfl⟩
  obtain ⟨g1,g2⟩:=hts t (List.mem_cons.2 (.inl rfl))
  refine WideElems.Trod_stays hl g1 g2 h1 (fun x hx=>?_) (fun x hx=>by simpa using hlt x (List.mem_append_left _ hx))
  have hb:=hlt x (List.mem_append_left _ hx)
  cases x with
  | cell b o=>exact cell_same (hold b hb)
  | map b=>exact hold b hb
 | [],_ :: _,_,_,_,_,h=>h.elim
 | [],[],_ :: _,_,_,_,h=>h.elim
 | _ :: _,[],_,_,_,_,h=>h.elim
 | _ :: _,_ :: _,[],_,_,_,h=>h.elim

theorem law_calls {f:FuncId}{X Y:Type}{inp:X→List SV × Obs}{out:Y→Out}{c:X→(Y→R)→R}(S:Snd P f inp out c){x:X}{b:Bool}(h:c x (fun y=>some (out y))=some ([.bool b],[])){ts:List TypeId}{ps:List PV}
  (hx:inp x=(List.zipWith (ofPV P) ts ps,[])){vs:List Value}(hA:Args P w ts vs ps)(hG:GlobOk P w (fun _=>False)) :
  Calls P f vs.toArray w (fun e w'=>e=.returned (.bool b)∧w'.os=w.os∧w'.output=w.output∧w.heap.size≤w'.heap.size∧∀ i,i < w.heap.size→w'.heap[i]?=w.heap[i]?):=by
 obtain ⟨a1,a2,a3⟩:=hA
 have hmut:∀ b,¬ Mut (fun _=>False) (fun _=>none) ([]:Obs) b:=by
  rintro b (h|⟨_,_,_,h,_⟩)
  ·exact h
  ·exact (Obs.no h).elim
 have hsl:∀ (i:Nat)(s:SV)(v:Value),(List.zipWith (ofPV P) ts ps)[i]?=some s→vs[i]?=some v→RS P w (fun _=>False) (fun _=>none) [] s v:=by
  intro i s v hs hv
  rw [List.getElem?_zipWith] at hs
  cases ht:ts[i]? with
  | none=>rw [ht] at hs;simp at hs
  | some t =>
   cases hp:ps[i]? with
   | none=>rw [ht,hp] at hs;simp at hs
   | some p =>
    rw [ht,hp] at hs
    simp only [Option.some.injEq] at hs
    subst hs
    obtain ⟨cs,h1,h2⟩:=a3 i t v p ht hv hp
    exact RS.ofPV h1 h2
 have hR:Rel P (fun _=>False) (fun _=>none) (inp x).1 (inp x).2 vs w:=by
  rw [hx]
  exact ⟨by simp [a1,a2],fun i s v a c=>RS.noObs (fun b _ _=>hmut b) (hsl i s v a c),(fun d o h=>(Obs.no h).elim),(fun d o d' o' b c c' h=>(Obs.no h).elim),(fun d o b c h=>(Obs.no h).elim),(fun d o b c h=>(Obs.no h).elim),fun b h=>h.elim,hG.sub fun b h=>(hmut b h).elim⟩
 refine Calls.mono (S.calls x _ h _ _ _ _ hR) fun e w' he=>?_
 obtain ⟨rvs,β',rfl,h1,h2⟩:=he
 have hv:rvs=[.bool b]:=by
  have hl:=h1.len
  match rvs,hl with
  | [v],_ =>
   have:=h1.slot 0 (.bool b) v rfl rfl
   cases this;rfl
 subst hv
 refine ⟨rfl,h2.os,h2.output,h2.size,fun i hi=>h2.old i hi ?_⟩
 rw [hx]
 rintro ⟨d,o,c,h,_⟩
 exact (Obs.no h).elim

end
end Go.X
namespace Go.X
open Go

def Ult (p:Nat→Prop):Prop:=∃ k0,∀ k,k0≤k→p k
theorem Ult.of {p:Nat→Prop}(h:∀ k,p k):Ult p:=⟨0,fun k _=>h k⟩
theorem Ult.mono {p q:Nat→Prop}(h:Ult p)(hpq:∀ k,p k→q k):Ult q:=h.imp fun _ g k hk=>hpq k (g k hk)
theorem Ult.and {p q:Nat→Prop}(h:Ult p)(g:Ult q):Ult fun k=>p k∧q k:=by
 obtain ⟨a,ha⟩:=h
 obtain ⟨b,hb⟩:=g
 exact ⟨max a b,fun k hk=>⟨ha k (by omega),hb k (by omega)⟩⟩
theorem Ult.succ {p:Nat→Prop}(h:Ult fun k=>p (k+1)):Ult p:=by
 obtain ⟨a,ha⟩:=h
 refine ⟨a+1,fun k hk=>?_⟩
 obtain ⟨m,rfl⟩:∃ m,k=m+1:=⟨k - 1,by omega⟩
 exact ha m (by omega)
theorem Ult.get {p:Nat→Prop}(h:Ult p):∃ k,p k:=by
 obtain ⟨a,ha⟩:=h
 exact ⟨a,ha a (Nat.le_refl _)⟩

end Go.X
namespace Go.X
open Go

def lexC:List Int→List Int→Int
 | [],[]=>0
 | [],_ :: _=>-1
 | _ :: _,[]=>1
 | a :: x,b :: y=>if a < b then -1 else if b < a then 1 else lexC x y

theorem Kp.start {P:Program}{Mo:Nat→Prop} {β:Beta}{args:List SV}{B0:Obs}{vs:List Value}{w:World}(h:Rel P Mo β args B0 vs w):Kp w (footOf β B0) β B0 w:=by
 obtain ⟨_,β',h1,h2⟩:=start_inv h 0
 refine ⟨Nat.le_refl _,fun _ _ _=>rfl,fun b hb=>.inl hb,rfl,rfl,fun k t b o hk ho=>?_,fun k hk=>h2.low k hk,fun i x hx=>hx⟩
 unfold footOf at hk
 simp only at hk
 split at hk
 ·cases hk
 ·rw [ho] at hk
  cases o with
  | row _ _=>cases hk
  | map _ _=>cases hk
  | hp _=>cases hk
  | hvar _ _=>cases hk
  | hrow _ _=>cases hk
  | box t' s =>
   cases hb:β k with
   | none=>rw [hb] at hk;cases hk
   | some b' =>
    rw [hb] at hk
    simp only [Option.some.injEq,Prod.mk.injEq] at hk
    obtain ⟨rfl,rfl⟩:=hk
    exact ⟨⟨s,rfl⟩,rfl⟩

end Go.X
