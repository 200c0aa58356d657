/- The interpreter X: texts 5 to 5; no statement of the seat is proved here. -/
import Derived.Test.YtmdlhnojpcnnbaaX4
namespace Go.X
open Go
section
variable {P : Program}

def offT (P:Program):TypeId→List Stp→Option Nat
 | _,[]=>some 0
 | t,.fld i :: q=>(match P.underlying t with
  | some (.struct fs)=>(fs[i]?).bind fun f=>if P.cellsOf f.type=0 then none else (offT P f.type q).map (f.offset+·)
  | _=>none)
 | t,.idx i :: q=>(match P.underlying t with
  | some (.array n e)=>if 0≤i∧i < n then (offT P e q).map (i.toNat * P.cellsOf e+·) else none
  | _=>none)
 | _,.el _ :: _=>none
def offO (P:Program):Ob→List Stp→Option Nat
 | .box t _,q=>offT P t q
 | .row e l,.el i :: q=>if 0≤i∧i < l.length then (offT P e q).map (i.toNat * P.cellsOf e+·) else none
 | _,_=>none

def SV.isT (P:Program)(t:TypeId)(s:SV):Prop :=
 (s.pvT P t).isSome=true∨s.isHandle P t=true∨s=.dead∨∃ l,s=.agg t l

abbrev Beta:=Nat→Option (Nat × Nat)

def GH (β:Beta)(B:Obs)(i:Nat)(x:Nat × Nat):Prop:=i < (Obs.hps B).length∧β (HB+i)=some x
def offH (P:Program)(e:TypeId):List Stp→Option Nat
 | .el i :: q=>if 0≤i then (offT P e q).map (i.toNat * P.cellsOf e+·) else none
 | q=>offT P e q

inductive RS (P:Program)(w:World)(M:Nat→Prop) (β:Beta)(B:Obs):SV→Value→Prop
 | int {k n}:(Lit.int k n).wf=true→RS P w M β B (.int k n) (.int k n)
 | bool {b}:RS P w M β B (.bool b) (.bool b)
 | str {s}:s.size≤maxLen→RS P w M β B (.str (chars s)) (.string s)
 | flt {k n}:(Lit.float k n).wf=true→RS P w M β B (.flt k n) (.float k n)
 | val {t p v cs}:Pack P t v cs→Rd P w M t p cs→RS P w M β B (.val t p) v
 | agg {t}{fs:Array Field}{l:List SV}{cs:List Value}{vs:Nat→Value}:P.underlying t=some (.struct fs)→t < P.types.size→l.length=fs.size→cs.length=P.cellsOf t →
   (∀ c ∈ cs,c.oneCell'=true) →
   (∀ (i:Nat)(f:Field)(s:SV),fs[i]?=some f→l[i]?=some s→s.isT P f.type∧Pack P f.type (vs i) ((cs.drop f.offset).take (P.cellsOf f.type))) →
   (∀ (i:Nat)(s:SV),l[i]?=some s→RS P w M β B s (vs i))→RS P w M β B (.agg t l) (.agg cs.toArray)
 | fro {t p a cs}:cs.length=P.cellsOf t→At w M a cs→Rd P w M t p cs→RS P w M β B (.fro t p) (.pointer (some a))
 | ptr {d q b c off ob}:Obs.get B d=some ob→β d=some (b,c)→offO P ob q=some off→RS P w M β B (.ptr d q) (.pointer (some ⟨b,off,none⟩))
 | own {t d e l b c}:P.underlying t=some (.slice e)→Obs.get B d=some (.row e l)→β d=some (b,c)→l.length≤c→RS P w M β B (.own t d) (.slice (some ⟨b,0,none⟩) l.length c)
 | ownNil {t d e}:P.underlying t=some (.slice e)→Obs.get B d=some (.row e [])→β d=none→RS P w M β B (.own t d) (.slice none 0 0)
 | mp {t d k e b c ob}:P.underlying t=some (.map k e)→Obs.get B d=some ob→β d=some (b,c)→d < HL→RS P w M β B (.mp t d) (.map (some b))
 | hval {t p v cs}:Pack P t v cs→RdH P w M (GH β B) t p cs→RS P w M β B (.hval t p) v
 | hsub {t e i n a b c}:refT P t=true→P.underlying t=some (.slice e)→P.cellsOf e=1→GH β B i (b,c)→a≤n→n≤c→c≤maxLen→RS P w M β B (.hsub t i n a) (.slice (some ⟨b,if c=a then 0 else a,none⟩) (n - a) (c - a))
 | hptr {t i q b c off}:GH β B i (b,c)→offH P t q=some off→RS P w M β B (.hptr t i q) (.pointer (some ⟨b,off,none⟩))
 | nils:RS P w M β B .nils (.slice none 0 0)
 | nilp:RS P w M β B .nilp (.pointer none)
 | nili:RS P w M β B .nili .nilIface
 | fn {f}{l:List SV}{cv:Array Value}{vs:Nat→Value}:cv.size=l.length→(∀ i,i < l.length→cv[i]?=some (vs i)) →
   (∀ (i:Nat)(s:SV),l[i]?=some s→RS P w M β B s (vs i))→RS P w M β B (.fn f l) (.func (.func f) #[] cv)
 | tup {l:List SV}{cv:Array Value}{vs:Nat→Value}:cv.size=l.length→(∀ i,i < l.length→cv[i]?=some (vs i)) →
   (∀ (i:Nat)(s:SV),l[i]?=some s→RS P w M β B s (vs i))→RS P w M β B (.tup l) (.tuple cv)
 | undef:RS P w M β B .undef undef
 | dead {v}:RS P w M β B .dead v

def RO (P:Program)(w:World)(M:Nat→Prop) (β:Beta)(B:Obs)(d:Nat):Ob→Prop
 | .box t s=>∃ b c cs v fr,β d=some (b,c)∧w.heap[b]?=some (.cells (List.toArray cs) t fr)∧(∀ o,o < cs.length→fr.1=fr.2∨cs.length≤fr.1) ∧
   cs.length=P.cellsOf t∧(∀ x ∈ cs,x.oneCell'=true)∧Pack P t v cs∧RS P w M β B s v∧s.isT P t∧t < P.types.size
 | .row e l=>e < P.types.size∧((β d=none∧l=[])∨∃ b c cs fr,β d=some (b,c)∧w.heap[b]?=some (.cells (List.toArray cs) e fr)∧(∀ o,o < cs.length→fr.1=fr.2∨cs.length≤fr.1) ∧
   l.length≤c∧c≤maxLen∧cs.length=c * P.cellsOf e∧(∀ x ∈ cs,x.oneCell'=true) ∧
   ∀ (i:Nat)(p:PV),l[i]?=some p→Rd P w M e p ((cs.drop (i * P.cellsOf e)).take (P.cellsOf e)))
 | .map t l=>∃ b c k e es clock,β d=some (b,c)∧w.heap[b]?=some (.map es clock)∧P.underlying t=some (.map k e)∧l.length=es.size ∧
   ∀ (i:Nat)(x:MapEntry),es[i]?=some x→∃ pk pv ck cv,l[i]?=some (.agg [pk,pv])∧Pack P k x.key ck∧Rd P w M k pk ck∧Pack P e x.val cv∧Rd P w M e pv cv

 | .hp _=>β d=none
 | .hvar t p=>∃ b c cs fr,β d=some (b,c)∧w.heap[b]?=some (.cells (List.toArray cs) t fr)∧(∀ o,o < cs.length→fr.1=fr.2∨cs.length≤fr.1) ∧
   cs.length=P.cellsOf t∧(∀ x ∈ cs,x.oneCell'=true)∧RdH P w M (GH β B) t p cs∧t < P.types.size
 | .hrow e l=>e < P.types.size∧∃ b c cs fr,β d=some (b,c)∧w.heap[b]?=some (.cells (List.toArray cs) e fr)∧(∀ o,o < cs.length→fr.1=fr.2∨cs.length≤fr.1) ∧
   l.length≤c∧c≤maxLen∧cs.length=c * P.cellsOf e∧(∀ x ∈ cs,x.oneCell'=true) ∧
   ∀ (i:Nat)(p:PV),l[i]?=some p→RdH P w M (GH β B) e p ((cs.drop (i * P.cellsOf e)).take (P.cellsOf e))

def Mine (β:Beta)(B:Obs)(b:Nat):Prop:=∃ d ob c,Obs.get B d=some ob∧β d=some (b,c)
def Mut (Mo:Nat→Prop) (β:Beta)(B:Obs)(b:Nat):Prop:=Mo b∨Mine β B b

def GlobOk (P:Program)(w:World)(M:Nat→Prop):Prop :=
 ∀ g,P.globals.findIdx? (fun x=>x.name== "internal/bytealg.MaxLen")=some g→¬ M g∧g < w.heap.size∧∃ m,w.cell? ⟨g,0,none⟩=some (.int .i64 m)
theorem GlobOk.mono {w w':World}{M M':Nat→Prop}(hs:Stable w M w' M')(h:GlobOk P w M):GlobOk P w' M':=by
 intro g e
 obtain ⟨h1,h2,m,h3⟩:=h g e
 obtain ⟨h4,h5⟩:=hs g h1 h2
 refine ⟨h4,?_,m,(cell_same h5).trans h3⟩
 rw [Array.getElem?_eq_getElem h2] at h5
 exact (Array.getElem?_eq_some_iff.1 h5).1
theorem GlobOk.sub {w:World}{M M':Nat→Prop}(h:GlobOk P w M)(hs:∀ b,M' b→M b):GlobOk P w M' :=
 fun g e=>⟨fun hb=>(h g e).1 (hs g hb),(h g e).2⟩
theorem GlobOk.none {w:World}{M:Nat→Prop}(h:P.globals.findIdx? (fun x=>x.name== "internal/bytealg.MaxLen")=none):GlobOk P w M :=
 fun g e=>by rw [h] at e;cases e

structure Rel (P:Program)(Mo:Nat→Prop) (β:Beta)(T:List SV)(B:Obs)(vs:List Value)(w:World):Prop where
 len:vs.length=T.length
 slot:∀ (i:Nat)(s:SV)(v:Value),T[i]?=some s→vs[i]?=some v→RS P w (Mut Mo β B) β B s v
 ob:∀ d o,Obs.get B d=some o→RO P w (Mut Mo β B) β B d o
 inj:∀ d o d' o' b c c',Obs.get B d=some o→Obs.get B d'=some o'→β d=some (b,c)→β d'=some (b,c')→d=d'
 lt:∀ d o b c,Obs.get B d=some o→β d=some (b,c)→b < w.heap.size
 out:∀ d o b c,Obs.get B d=some o→β d=some (b,c)→¬ Mo b
 mo:∀ b,Mo b→b < w.heap.size
 gl:GlobOk P w (Mut Mo β B)

structure Same (P:Program)(w:World)(M:Nat→Prop) (β:Beta)(B:Obs)(w':World)(M':Nat→Prop) (β':Beta)(B':Obs):Prop where
 st:Stable w M w' M'
 ptr:∀ d ob,d < HB→Obs.get B d=some ob→∃ ob',Obs.get B' d=some ob'∧β' d=β d∧(∀ q off,offO P ob q=some off→offO P ob' q=some off) ∧
  (∀ e l,ob=.row e l→∃ l',ob'=.row e l'∧l'.length=l.length)
 hp:∀ i x,GH β B i x→GH β' B' i x

theorem get_low {B:Obs}{d:Nat}{o:Ob}(h:Obs.get B d=some o)(hh:∀ l,o≠.hp l)(hv:∀ t p,o≠.hvar t p)(hr:∀ t p,o≠.hrow t p):d < HL:=by
 by_cases hd:d < HL
 ·exact hd
 ·exfalso
  unfold Obs.get at h
  rw [show d.blt HL=false by rw [Bool.eq_false_iff,ne_eq,Nat.blt_eq];exact hd,cond_false] at h
  unfold hiOf at h
  cases he:d==HL with
  | true =>
   rw [he,cond_true] at h
   split at h
   ·injection h with h;exact hh _ h.symm
   ·cases h
  | false =>
   rw [he,cond_false] at h
   cases hb:d.blt HB with
   | true=>rw [hb] at h;cases h
   | false =>
    rw [hb,cond_false] at h
    cases hy:(hpsOf (Obs.get0 B HL))[d - HB]? with
    | none=>rw [hy] at h;cases h
    | some y =>
     rw [hy] at h
     cases y with
     | gone=>cases h
     | var t p=>injection h with h;exact hv _ _ h.symm
     | row t l=>injection h with h;exact hr _ _ h.symm
theorem off_low {P:Program}{B:Obs}{d:Nat}{o:Ob}{q:List Stp}{off:Nat}(h:Obs.get B d=some o)(hq:offO P o q=some off):d < HL:=by
 refine get_low h (fun l hl=>?_) (fun t p hl=>?_) (fun t p hl=>?_) <;> subst hl <;> cases hq
theorem row_low {B:Obs}{d:Nat}{e:TypeId}{l:List PV}(h:Obs.get B d=some (.row e l)):d < HL :=
 get_low h (fun l hl=>by cases hl) (fun t p hl=>by cases hl) (fun t p hl=>by cases hl)

theorem RS.mono {w w':World}{M M':Nat→Prop} {β β':Beta}{B B':Obs}(h:Same P w M β B w' M' β' B'){s:SV}{v:Value}(hr:RS P w M β B s v):RS P w' M' β' B' s v:=by
 induction hr with
 | int a=>exact .int a
 | bool=>exact .bool
 | str a=>exact .str a
 | flt a=>exact .flt a
 | val a b=>exact .val a (b.mono h.st)
 | agg a b c d e f _ ih=>exact .agg a b c d e f ih
 | fro a b c=>exact .fro a (b.mono h.st) (c.mono h.st)
 | ptr a b c =>
  obtain ⟨ob',h1,h2,h3,_⟩:=h.ptr _ _ (Nat.lt_trans (off_low a c) (by decide)) a
  exact .ptr h1 (h2.trans b) (h3 _ _ c)
 | own a b c d =>
  obtain ⟨ob',h1,h2,_,h4⟩:=h.ptr _ _ (Nat.lt_trans (row_low b) (by decide)) b
  obtain ⟨l',rfl,hl⟩:=h4 _ _ rfl
  rw [←hl] at d ⊢
  exact .own a h1 (h2.trans c) d
 | ownNil a b c =>
  obtain ⟨ob',h1,h2,_,h4⟩:=h.ptr _ _ (Nat.lt_trans (row_low b) (by decide)) b
  obtain ⟨l',rfl,hl⟩:=h4 _ _ rfl
  have:l'=[]:=by simpa using hl
  subst this
  exact .ownNil a h1 (h2.trans c)
 | mp a b c d =>
  obtain ⟨ob',h1,h2,_,_⟩:=h.ptr _ _ (Nat.lt_trans d (by decide)) b
  exact .mp a h1 (h2.trans c) d
 | hval a b=>exact .hval a (b.mono h.st h.hp)
 | hptr a b=>exact .hptr (h.hp _ _ a) b
 | hsub r a b c d e f=>exact .hsub r a b (h.hp _ _ c) d e f
 | nils=>exact .nils
 | nilp=>exact .nilp
 | nili=>exact .nili
 | fn a b _ ih=>exact .fn a b ih
 | tup a b _ ih=>exact .tup a b ih
 | undef=>exact .undef
 | dead=>exact .dead

end
end Go.X
