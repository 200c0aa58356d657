/- The interpreter X: texts 4 to 4; no statement of the seat is proved here. -/
import Derived.Test.YtmdlhnojpcnnbaaX3
import Derived.Laws.Cells
import Derived.Laws.IdiomCopy
namespace Go.X
open Go
section
variable {P : Program}

def At (w:World)(M:Nat→Prop)(a:Addr)(cs:List Value):Prop :=
 ∀ j v,cs[j]?=some v→¬ M a.block∧w.cell? (a.add j)=some v

inductive Rd (P:Program)(w:World)(M:Nat→Prop):TypeId→PV→List Value→Prop
 | int {t k n}:P.underlying t=some (.int k)→(Lit.int k n).wf=true→Rd P w M t (.int n) [.int k n]
 | bool {t b}:P.underlying t=some .bool→Rd P w M t (.bool b) [.bool b]
 | str {t s}:P.underlying t=some .string→s.size≤maxLen→Rd P w M t (.str (chars s)) [.string s]
 | flt {t k n}:P.underlying t=some (.float k)→(Lit.float k n).wf=true→Rd P w M t (.flt n) [.float k n]
 | nilSlice {t e}:P.underlying t=some (.slice e)→Rd P w M t (.list []) [.slice none 0 0]
 | slice {t e a n c}{l:List PV}{cs:Nat→List Value}:P.underlying t=some (.slice e)→l.length=n→n≤c→c≤maxLen →
   (∀ i,i < n→(cs i).length=P.cellsOf e∧At w M (a.add (i * P.cellsOf e)) (cs i)) →
   (∀ (i:Nat)(p:PV),l[i]?=some p→Rd P w M e p (cs i))→Rd P w M t (.list l) [.slice (some a) n c]
 | nilPtr {t e}:P.underlying t=some (.pointer e)→Rd P w M t .nil [.pointer none]
 | ref {t e a p cs}:P.underlying t=some (.pointer e)→cs.length=P.cellsOf e→At w M a cs→Rd P w M e p cs→Rd P w M t (.ref p) [.pointer (some a)]
 | nilIface {t ms}:P.underlying t=some (.interface ms)→Rd P w M t .nil [.nilIface]
 | struct {t}{fs:Array Field}{l:List PV}{cs:List Value}:P.underlying t=some (.struct fs)→t < P.types.size→l.length=fs.size→cs.length=P.cellsOf t →
   (∀ (i:Nat)(f:Field)(p:PV),fs[i]?=some f→l[i]?=some p→Rd P w M f.type p ((cs.drop f.offset).take (P.cellsOf f.type)))→Rd P w M t (.agg l) cs
 | arr {t n e}{l:List PV}{cs:List Value}:P.underlying t=some (.array n e)→t < P.types.size→l.length=n→cs.length=P.cellsOf t →
   (∀ (i:Nat)(p:PV),l[i]?=some p→Rd P w M e p ((cs.drop (i * P.cellsOf e)).take (P.cellsOf e)))→Rd P w M t (.agg l) cs

def Stable (w:World)(M:Nat→Prop)(w':World)(M':Nat→Prop):Prop :=
 ∀ b,¬ M b→b < w.heap.size→¬ M' b∧w'.heap[b]?=w.heap[b]?

theorem lt_of_cell {w:World}{a:Addr}{v:Value}(h:w.cell? a=some v):a.block < w.heap.size:=by
 unfold World.cell? at h
 by_cases hb:a.block < w.heap.size
 ·exact hb
 ·rw [Array.getElem?_eq_none (by omega)] at h;simp at h

theorem add_block (a:Addr)(j:Nat):(a.add j).block=a.block:=by unfold Addr.add;split <;> rfl

theorem cell_same {w w':World}{a:Addr}(h:w'.heap[a.block]?=w.heap[a.block]?):w'.cell? a=w.cell? a:=by
 unfold World.cell?;rw [h]

theorem At.mono {w w':World}{M M':Nat→Prop}{a:Addr}{cs:List Value}(h:Stable w M w' M')(hA:At w M a cs):At w' M' a cs:=by
 intro j v hj
 obtain ⟨h1,h2⟩:=hA j v hj
 have hb:=lt_of_cell h2
 rw [add_block] at hb
 obtain ⟨h3,h4⟩:=h _ h1 hb
 exact ⟨h3,(cell_same (by rw [add_block];exact h4)).trans h2⟩

theorem Rd.mono {w w':World}{M M':Nat→Prop}(h:Stable w M w' M'){t:TypeId}{p:PV}{cs:List Value}(hr:Rd P w M t p cs):Rd P w' M' t p cs:=by
 induction hr with
 | int a b=>exact .int a b
 | bool a=>exact .bool a
 | str a b=>exact .str a b
 | flt a b=>exact .flt a b
 | nilSlice a=>exact .nilSlice a
 | slice a b c d e _ ih=>exact .slice a b c d (fun i hi=>⟨(e i hi).1,(e i hi).2.mono h⟩) ih
 | nilPtr a=>exact .nilPtr a
 | ref a b c _ ih=>exact .ref a b (c.mono h) ih
 | nilIface a=>exact .nilIface a
 | struct a a' b c _ ih=>exact .struct a a' b c ih
 | arr a a' b c _ ih=>exact .arr a a' b c ih

inductive RdH (P:Program)(w:World)(M:Nat→Prop)(G:Nat→Nat × Nat→Prop):TypeId→PV→List Value→Prop
 | leaf {t p cs}:isAggT P t=false→refT P t=false→Rd P w M t p cs→RdH P w M G t p cs
 | nilp {t e}:refT P t=true→P.underlying t=some (.pointer e)→RdH P w M G t .nil [.pointer none]
 | ptr {t e i b c}:refT P t=true→P.underlying t=some (.pointer e)→G i (b,c)→RdH P w M G t (.rp i) [.pointer (some ⟨b,0,none⟩)]
 | nils {t e}:refT P t=true→P.underlying t=some (.slice e)→RdH P w M G t (.list []) [.slice none 0 0]
 | sl {t e i n b c}:refT P t=true→P.underlying t=some (.slice e)→G i (b,c)→n≤c→c≤maxLen→RdH P w M G t (.rs i n) [.slice (some ⟨b,0,none⟩) n c]
 | struct {t}{fs:Array Field}{l:List PV}{cs:List Value}:P.underlying t=some (.struct fs)→t < P.types.size→l.length=fs.size→cs.length=P.cellsOf t →
   (∀ (i:Nat)(f:Field)(p:PV),fs[i]?=some f→l[i]?=some p→RdH P w M G f.type p ((cs.drop f.offset).take (P.cellsOf f.type)))→RdH P w M G t (.agg l) cs
 | arr {t n e}{l:List PV}{cs:List Value}:P.underlying t=some (.array n e)→t < P.types.size→l.length=n→cs.length=P.cellsOf t →
   (∀ (i:Nat)(p:PV),l[i]?=some p→RdH P w M G e p ((cs.drop (i * P.cellsOf e)).take (P.cellsOf e)))→RdH P w M G t (.agg l) cs

theorem RdH.mono {w w':World}{M M':Nat→Prop}{G G':Nat→Nat × Nat→Prop}(h:Stable w M w' M')(hG:∀ i x,G i x→G' i x){t:TypeId}{p:PV}{cs:List Value}(hr:RdH P w M G t p cs):RdH P w' M' G' t p cs:=by
 induction hr with
 | leaf a b c=>exact .leaf a b (c.mono h)
 | nilp a b=>exact .nilp a b
 | ptr a b c=>exact .ptr a b (hG _ _ c)
 | nils a b=>exact .nils a b
 | sl a b c d e=>exact .sl a b (hG _ _ c) d e
 | struct a a' b c _ ih=>exact .struct a a' b c ih
 | arr a a' b c _ ih=>exact .arr a a' b c ih

theorem RdH.pure {w:World}{M:Nat→Prop}{G:Nat→Nat × Nat→Prop}:∀ (n:Nat){t:TypeId}{p:PV}{cs:List Value},pureT P n t=true→RdH P w M G t p cs→Rd P w M t p cs
 | 0,_,_,_,h,_=>by cases h
 | n+1,t,p,cs,h,hr=>by
  have hno:∀ {e},(P.underlying t=some (.pointer e)∨P.underlying t=some (.slice e))→refT P t=true→False:=by
   intro e hu hf
   unfold pureT at h
   rcases hu with hu|hu <;> rw [hu] at h <;> simp only [hf] at h <;> cases h
  cases hr with
  | leaf _ _ c=>exact c
  | nilp a b=>exact (hno (.inl b) a).elim
  | ptr a b=>exact (hno (.inl b) a).elim
  | nils a b=>exact (hno (.inr b) a).elim
  | sl a b=>exact (hno (.inr b) a).elim
  | struct hu a b c d =>
   unfold pureT at h
   rw [hu] at h
   simp only [List.all_eq_true] at h
   exact .struct hu a b c (fun i f p hf hp=>RdH.pure n (h f (by have:_:=hf;exact List.mem_of_getElem? (by simpa using hf))) (d i f p hf hp))
  | arr hu a b c d =>
   unfold pureT at h
   rw [hu] at h
   simp only at h
   exact .arr hu a b c (fun i p hp=>RdH.pure n h (d i p hp))
theorem Rd.heap {w:World}{M:Nat→Prop}{G:Nat→Nat × Nat→Prop}:∀ (n:Nat){t:TypeId}{p:PV}{cs:List Value},pureT P n t=true→Rd P w M t p cs→RdH P w M G t p cs
 | 0,_,_,_,h,_=>by cases h
 | n+1,t,p,cs,h,hr=>by
  have hleaf:isAggT P t=false→RdH P w M G t p cs:=by
   intro ha
   refine .leaf ha ?_ hr
   unfold pureT at h
   unfold isAggT at ha
   cases hu:P.underlying t with
   | none=>unfold refT;rw [hu]
   | some d =>
    rw [hu] at h ha
    cases d <;> first
     | (simp only at ha;cases ha;done)
     | (simpa using h)
  cases hr with
  | struct hu a b c d =>
   unfold pureT at h
   rw [hu] at h
   simp only [List.all_eq_true] at h
   exact .struct hu a b c (fun i f p hf hp=>Rd.heap n (h f (List.mem_of_getElem? (by simpa using hf))) (d i f p hf hp))
  | arr hu a b c d =>
   unfold pureT at h
   rw [hu] at h
   simp only at h
   exact .arr hu a b c (fun i p hp=>Rd.heap n h (d i p hp))
  | int hu=>exact hleaf (by simp [isAggT,hu])
  | bool hu=>exact hleaf (by simp [isAggT,hu])
  | str hu=>exact hleaf (by simp [isAggT,hu])
  | flt hu=>exact hleaf (by simp [isAggT,hu])
  | nilSlice hu=>exact hleaf (by simp [isAggT,hu])
  | slice hu=>exact hleaf (by simp [isAggT,hu])
  | nilPtr hu=>exact hleaf (by simp [isAggT,hu])
  | ref hu=>exact hleaf (by simp [isAggT,hu])
  | nilIface hu=>exact hleaf (by simp [isAggT,hu])

def Pack (P:Program)(t:TypeId)(v:Value)(cs:List Value):Prop :=
 if isAggT P t=true then v=.agg cs.toArray else cs=[v]

theorem isAggT_struct {t:TypeId}{fs:Array Field}(h:P.underlying t=some (.struct fs)):isAggT P t=true:=by simp [isAggT,h]
theorem isAggT_arr {t:TypeId}{n:Nat}{e:TypeId}(h:P.underlying t=some (.array n e)):isAggT P t=true:=by simp [isAggT,h]

theorem Rd.len {w:World}{M:Nat→Prop}{t:TypeId}{p:PV}{cs:List Value}(hr:Rd P w M t p cs)(ht:isAggT P t=false):∃ v,cs=[v]∧v.oneCell'=true∧v.cells=#[v]:=by
 cases hr with
 | struct a=>rw [isAggT_struct a] at ht;cases ht
 | arr a=>rw [isAggT_arr a] at ht;cases ht
 | _=>exact ⟨_,rfl,rfl,rfl⟩

theorem rowFine_of {P:Program}(hL:laidOutB P=true){t:TypeId}(ht:t < P.types.size):rowFine P t=true:=by
 unfold laidOutB at hL
 simp only [Bool.and_eq_true,List.all_eq_true] at hL
 exact hL.1.1 t (List.mem_range.2 ht)

def LayS (P:Program)(t:TypeId)(fs:Array Field):Prop :=
 (∀ f ∈ fs.toList,f.type < P.types.size)∧P.cellsOf t=(fs.toList.map fun f=>P.cellsOf f.type).sum ∧
 ∀ (j:Nat) f,fs[j]?=some f→f.offset=((fs.toList.take j).map fun f=>P.cellsOf f.type).sum

theorem layS {P:Program}(hL:laidOutB P=true){t:TypeId}(ht:t < P.types.size){fs:Array Field}(hu:P.underlying t=some (.struct fs)):LayS P t fs:=by
 have h:=rowFine_of hL ht
 unfold rowFine at h
 have hv:isVar P t=true:=by simp [isVar,ht,kindOk,hu]
 simp only [hv,hu,Bool.not_true,Bool.false_or,Bool.and_eq_true,List.all_eq_true,beq_iff_eq] at h
 obtain ⟨⟨h1,h2⟩,h3⟩:=h
 refine ⟨fun f hf=>by have:=h1 f hf;simp [isVar] at this;exact this.1,h2,fun j f hj=>?_⟩
 have hj':fs.toList[j]?=some f:=by simpa using hj
 have hlt:j < fs.toList.length:=by
  rcases Nat.lt_or_ge j fs.toList.length with h|h
  ·exact h
  ·rw [List.getElem?_eq_none h] at hj';cases hj'
 have:=h3 j (List.mem_range.2 hlt)
 rw [hj'] at this
 simpa using this

theorem layA {P:Program}(hL:laidOutB P=true){t:TypeId}(ht:t < P.types.size){n:Nat}{e:TypeId}(hu:P.underlying t=some (.array n e)) :
  e < P.types.size∧P.cellsOf t=n * P.cellsOf e:=by
 have h:=rowFine_of hL ht
 unfold rowFine at h
 have hv:isVar P t=true:=by simp [isVar,ht,kindOk,hu]
 simp only [hv,hu,Bool.not_true,Bool.false_or,Bool.and_eq_true,beq_iff_eq] at h
 exact ⟨by have:=h.1;simp [isVar] at this;exact this.1,h.2⟩

theorem sum_take_succ (l:List Nat)(j:Nat)(x:Nat)(h:l[j]?=some x):(l.take (j+1)).sum=(l.take j).sum+x:=by
 rw [List.take_add_one,h];simp [List.sum_append]
theorem sum_take_le (l:List Nat)(j:Nat):(l.take j).sum≤l.sum:=by
 conv=>rhs;rw [←List.take_append_drop j l]
 rw [List.sum_append];omega

theorem LayS.within {t:TypeId}{fs:Array Field}(h:LayS P t fs){j:Nat}{f:Field}(hj:fs[j]?=some f):f.offset+P.cellsOf f.type≤P.cellsOf t:=by
 rw [h.2.2 j f hj,h.2.1]
 have hj':(fs.toList.map fun f=>P.cellsOf f.type)[j]?=some (P.cellsOf f.type):=by
  rw [List.getElem?_map];rw [show fs.toList[j]?=some f by simpa using hj];rfl
 have:=sum_take_succ _ _ _ hj'
 rw [List.map_take,←this]
 exact sum_take_le _ _

theorem sum_take_mono (l:List Nat)(i j:Nat)(h:i≤j):(l.take i).sum≤(l.take j).sum:=by
 have e:l.take i=(l.take j).take i:=by rw [List.take_take,Nat.min_eq_left h]
 rw [e];exact sum_take_le _ _
theorem LayS.apart {t:TypeId}{fs:Array Field}(h:LayS P t fs){i j:Nat}{f g:Field}(hi:fs[i]?=some f)(hj:fs[j]?=some g)(hij:i < j) :
  f.offset+P.cellsOf f.type≤g.offset:=by
 rw [h.2.2 i f hi,h.2.2 j g hj]
 have hi':(fs.toList.map fun f=>P.cellsOf f.type)[i]?=some (P.cellsOf f.type):=by
  rw [List.getElem?_map];rw [show fs.toList[i]?=some f by simpa using hi];rfl
 have:=sum_take_succ _ _ _ hi'
 rw [List.map_take,List.map_take,←this]
 exact sum_take_mono _ _ _ hij

theorem cover:∀ (l:List Nat)(j:Nat),j < l.sum→∃ i x,l[i]?=some x∧(l.take i).sum≤j∧j < (l.take i).sum+x:=by
 intro l
 induction l with
 | nil=>intro j h;simp at h
 | cons a l ih =>
  intro j h
  by_cases ha:j < a
  ·exact ⟨0,a,rfl,by simp,by simpa using ha⟩
  ·obtain ⟨i,x,h1,h2,h3⟩:=ih (j - a) (by simp at h;omega)
   exact ⟨i+1,x,by simpa using h1,by simp;omega,by simp;omega⟩

theorem Rd.one {P:Program}(hL:laidOutB P=true){w:World}{M:Nat→Prop}{t:TypeId}{p:PV}{cs:List Value}(hr:Rd P w M t p cs):∀ c ∈ cs,c.oneCell'=true:=by
 induction hr with
 | @struct t fs l cs hu ht hl hc _ ih =>
  intro c hcm
  obtain ⟨j,hj⟩:=List.getElem?_of_mem hcm
  have hjl:j < cs.length:=by
   rcases Nat.lt_or_ge j cs.length with h|h
   ·exact h
   ·rw [List.getElem?_eq_none h] at hj;cases hj
  have lay:=layS hL ht hu
  obtain ⟨i,x,h1,h2,h3⟩:=cover (fs.toList.map fun f=>P.cellsOf f.type) j (by rw [←lay.2.1];omega)
  rw [List.getElem?_map] at h1
  cases hf:fs.toList[i]? with
  | none=>rw [hf] at h1;cases h1
  | some f =>
   rw [hf] at h1
   simp only [Option.map_some,Option.some.injEq] at h1
   have hf':fs[i]?=some f:=by simpa using hf
   have hli:i < l.length:=by
    rw [hl]
    rcases Nat.lt_or_ge i fs.size with h|h
    ·exact h
    ·rw [Array.getElem?_eq_none h] at hf';cases hf'
   have ho:=lay.2.2 i f hf'
   rw [List.map_take] at ho
   refine ih i f l[i] hf' (List.getElem?_eq_getElem hli) c ?_
   rw [←h1] at h3
   rw [←ho] at h2 h3
   have:((cs.drop f.offset).take (P.cellsOf f.type))[j - f.offset]?=some c:=by
    rw [List.getElem?_take_of_lt (by omega),List.getElem?_drop,show f.offset+(j - f.offset)=j by omega,hj]
   exact List.mem_of_getElem? this
 | @arr t n e l cs hu ht hl hc _ ih =>
  intro c hcm
  obtain ⟨j,hj⟩:=List.getElem?_of_mem hcm
  have hjl:j < cs.length:=by
   rcases Nat.lt_or_ge j cs.length with h|h
   ·exact h
   ·rw [List.getElem?_eq_none h] at hj;cases hj
  obtain ⟨_,lay⟩:=layA hL ht hu
  rw [hc,lay] at hjl
  have he:0 < P.cellsOf e:=by
   rcases Nat.eq_zero_or_pos (P.cellsOf e) with h|h
   ·rw [h] at hjl;simp at hjl
   ·exact h
  have hd:=Nat.div_add_mod j (P.cellsOf e)
  have hm:=Nat.mod_lt j he
  have hq:j / P.cellsOf e < l.length:=by rw [hl];exact (Nat.div_lt_iff_lt_mul he).2 hjl
  refine ih (j / P.cellsOf e) l[j / P.cellsOf e] (List.getElem?_eq_getElem hq) c ?_
  rw [Nat.mul_comm] at hd
  have:((cs.drop (j / P.cellsOf e * P.cellsOf e)).take (P.cellsOf e))[j % P.cellsOf e]?=some c:=by
   rw [List.getElem?_take_of_lt hm,List.getElem?_drop,hd,hj]
  exact List.mem_of_getElem? this
 | _=>intro c hc;simp at hc;subst hc;rfl

end
end Go.X
