/- The interpreter X: texts 1 to 1; no statement of the seat is proved here. -/
import GoSem.Claim
import Derived.Calls
namespace Go.X
open Go

inductive PV where
 | int (n:Int)|bool (b:Bool)|str (s:List Int)|flt (n:Nat)
 | agg (l:List PV)|list (l:List PV)|nil|ref (p:PV)|rp (i:Nat)|rs (i n:Nat)
 deriving Inhabited

namespace PV
def num:PV→Int|.int n=>n|_=>0
def tt:PV→Bool|.bool b=>b|_=>false
def chars:PV→List Int|.str s=>s|_=>[]
def fbits:PV→Nat|.flt n=>n|_=>0
def els:PV→List PV|.list l=>l|_=>[]
def flds:PV→List PV|.agg l=>l|_=>[]
def fld (p:PV)(i:Nat):PV:=p.flds.getD i .nil
def pointee:PV→PV|.ref p=>p|_=>.nil
def isNil:PV→Bool|.nil=>true|_=>false
def rI:PV→Nat|.rp i=>i|.rs i _=>i|_=>0
def rN:PV→Nat|.rs _ n=>n|_=>0
def isRp:PV→Bool|.rp _=>true|_=>false
def isRs:PV→Bool|.rs _ _=>true|_=>false
end PV

mutual
def PV.beq:PV→PV→Bool
 | .int a,.int b=>decide (a=b)
 | .bool a,.bool b=>a==b
 | .str a,.str b=>decide (a=b)
 | .flt a,.flt b=>a==b
 | .agg a,.agg b=>PV.beqs a b
 | .list a,.list b=>PV.beqs a b
 | .nil,.nil=>true
 | .ref a,.ref b=>PV.beq a b
 | .rp i,.rp j=>i==j
 | .rs i n,.rs j m=>i==j&&n==m
 | _,_=>false
def PV.beqs:List PV→List PV→Bool
 | [],[]=>true
 | a :: l,b :: m=>PV.beq a b&&PV.beqs l m
 | _,_=>false
end

inductive Stp where
 | fld (i:Nat)|idx (i:Int)|el (i:Int)

def PV.get:PV→List Stp→PV
 | p,[]=>p
 | p,.fld i :: q=>(p.fld i).get q
 | p,.idx i :: q=>(p.fld i.toNat).get q
 | p,.el i :: q=>(p.els.getD i.toNat .nil).get q
def PV.put:PV→List Stp→PV→PV
 | _,[],v=>v
 | p,.fld i :: q,v=>.agg (p.flds.set i ((p.fld i).put q v))
 | p,.idx i :: q,v=>.agg (p.flds.set i.toNat ((p.fld i.toNat).put q v))
 | p,.el i :: q,v=>.list (p.els.set i.toNat ((p.els.getD i.toNat .nil).put q v))

inductive SV where
 | int (k:IntKind)(n:Int)|bool (b:Bool)|str (s:List Int)|flt (k:FloatKind)(n:Nat)
 | val (t:TypeId)(p:PV)
 | agg (t:TypeId)(l:List SV)
 | fro (t:TypeId)(p:PV)
 | ptr (d:Nat)(q:List Stp)
 | own (t:TypeId)(d:Nat)
 | mp (t:TypeId)(d:Nat)
 | hval (t:TypeId)(p:PV)
 | hptr (t:TypeId)(i:Nat)(q:List Stp)
 | hsub (t:TypeId)(i n a:Nat)
 | nils|nilp|nili
 | fn (f:FuncId)(caps:List SV)
 | tup (l:List SV)
 | undef|dead
 deriving Inhabited

inductive HE where
 | gone
 | var (t:TypeId)(p:PV)
 | row (e:TypeId)(l:List PV)
 deriving Inhabited

inductive Ob where
 | box (t:TypeId)(s:SV)
 | row (e:TypeId)(l:List PV)
 | map (t:TypeId)(l:List PV)
 | hp (l:List HE)
 | hvar (t:TypeId)(p:PV)
 | hrow (e:TypeId)(l:List PV)
 deriving Inhabited
def HE.ob:HE→Option Ob
 | .gone=>none
 | .var t p=>some (.hvar t p)
 | .row e l=>some (.hrow e l)

structure St where
 T:List SV
 B:List (Nat × Ob)
 deriving Inhabited

def Ob.he:Ob→HE
 | .hvar t p=>.var t p
 | .hrow e l=>.row e l
 | _=>.gone
abbrev Obs:=List (Nat × Ob)
def HL:Nat:=1000000000000
def HB:Nat:=2000000000000
def Obs.get0:Obs→Nat→Option Ob
 | [],_=>none
 | (k,o) :: l,d=>bif k==d then some o else Obs.get0 l d
def hpsOf:Option Ob→List HE
 | some (.hp l)=>l
 | _=>[]
def Obs.hps (B:Obs):List HE:=hpsOf (Obs.get0 B HL)
def Obs.hasH (B:Obs):Bool:=match Obs.get0 B HL with|some (.hp _)=>true|_=>false
def hiOf (x:Option Ob)(d:Nat):Option Ob:=bif d==HL then (match x with|some (.hp l)=>some (.hp l)|_=>none) else bif d.blt HB then none else ((hpsOf x)[d - HB]?).bind HE.ob
def Obs.get (B:Obs)(d:Nat):Option Ob:=bif d.blt HL then Obs.get0 B d else hiOf (Obs.get0 B HL) d
def Obs.setH (l:List HE):Obs→Obs
 | []=>[]
 | (k,o) :: B=>bif k==HL then (k,.hp l) :: B else (k,o) :: Obs.setH l B
def Obs.ins (d:Nat)(o:Ob):Obs→Obs
 | []=>[(d,o)]
 | (k,x) :: l=>bif d==k then (d,o) :: l else bif d.blt k then (d,o) :: (k,x) :: l else (k,x) :: Obs.ins d o l
def Obs.del (d:Nat):Obs→Obs
 | []=>[]
 | (k,x) :: l=>bif d==k then Obs.del d l else (k,x) :: Obs.del d l

def chars (s:ByteArray):List Int:=s.data.toList.map fun b=>(b.toNat:Int)

section types
variable (P : Program)
def pvC:Nat→TypeId→List Value→Option PV
 | 0,_,_=>none
 | n+1,t,cs =>
  match P.underlying t,cs with
  | some (.int k),[.int k' m]=>bif decide (k=k')&&(Lit.int k m).wf then some (.int m) else none
  | some .bool,[.bool b]=>some (.bool b)
  | some .string,[.string s]=>bif decide (s.size≤1073741824) then some (.str (chars s)) else none
  | some (.float k),[.float k' m]=>bif decide (k=k')&&(Lit.float k m).wf then some (.flt m) else none
  | some (.slice _),[.slice none 0 0]=>some (.list [])
  | some (.pointer _),[.pointer none]=>some .nil
  | some (.interface _),[.nilIface]=>some .nil
  | some (.struct fs),cs=>bif (decide (t < P.types.size))&&decide (cs.length=P.cellsOf t) then (fs.toList.mapM fun f=>pvC n f.type ((cs.drop f.offset).take (P.cellsOf f.type))).map .agg else none
  | some (.array m e),cs=>bif (decide (t < P.types.size))&&decide (cs.length=P.cellsOf t) then ((List.range m).mapM fun i=>pvC n e ((cs.drop (i * P.cellsOf e)).take (P.cellsOf e))).map .agg else none
  | _,_=>none
def ofPV (t:TypeId)(p:PV):SV :=
 match P.underlying t with
 | some (.int k)=>.int k p.num
 | some .bool=>.bool p.tt
 | some .string=>.str p.chars
 | some (.float k)=>.flt k p.fbits
 | _=>.val t p
def isAggT (t:TypeId):Bool:=match P.underlying t with|some (.struct _)|some (.array _ _)=>true|_=>false
def zeroPV (t:TypeId):Option PV :=
 match (P.info? t).bind (·.zero) with
 | some (.agg cs)=>bif isAggT P t then pvC P 10 t cs.toList else none
 | some v=>bif isAggT P t then none else pvC P 10 t [v]
 | none=>none
def fieldsOf (t:TypeId):List Field:=match P.underlying t with|some (.struct fs)=>fs.toList|_=>[]
def elemOf (t:TypeId):TypeId:=match P.underlying t with|some (.slice e)|some (.pointer e)|some (.array _ e)=>e|_=>0
def isScalar (t:TypeId):Bool:=match P.underlying t with|some (.int _)|some .bool|some .string|some (.float _)=>true|_=>false
end types

def refT (P:Program)(t:TypeId):Bool :=
 match P.underlying t with
 | some (.pointer _)=>true
 | some (.slice e)=>(match P.underlying e with|some (.int .u8)=>false|some (.struct fs)=>!(fs.toList.any fun f=>f.type==t)|_=>true)
 | _=>false
def isSliceT (P:Program)(t:TypeId):Bool:=match P.underlying t with|some (.slice _)=>true|_=>false
def pureT (P:Program):Nat→TypeId→Bool
 | 0,_=>false
 | n+1,t=>match P.underlying t with
  | some (.struct fs)=>fs.toList.all fun f=>pureT P n f.type
  | some (.array _ e)=>pureT P n e
  | _=>!refT P t
def hv (P:Program)(t:TypeId)(p:PV):SV:=bif pureT P 10 t then ofPV P t p else .hval t p

def lowB:Nat:=2000000
def alike (P:Program)(u t:TypeId):Bool :=
 match P.underlying u,P.underlying t with
 | some (.array n e),some (.array m f)=>decide (n=m)&&(e==f)&&decide (t < P.types.size)&&decide (P.cellsOf u=P.cellsOf t)
 | some (.slice e),some (.slice f)=>e==f
 | _,_=>false
def SV.pvT (P:Program)(t:TypeId):SV→Option PV
 | .int k n=>(match P.underlying t with|some (.int k')=>bif decide (k'=k) then some (.int n) else none|_=>none)
 | .bool b=>(match P.underlying t with|some .bool=>some (.bool b)|_=>none)
 | .str s=>(match P.underlying t with|some .string=>some (.str s)|_=>none)
 | .flt k n=>(match P.underlying t with|some (.float k')=>bif decide (k'=k) then some (.flt n) else none|_=>none)
 | .val u p=>bif (u==t) || alike P u t then some p else none
 | .fro e p=>(match P.underlying t with|some (.pointer e')=>bif e'==e then some (.ref p) else none|_=>none)
 | .nils=>(match P.underlying t with|some (.slice _)=>some (.list [])|_=>none)
 | .nilp=>(match P.underlying t with|some (.pointer _)=>some .nil|_=>none)
 | .nili=>(match P.underlying t with|some (.interface _)=>some .nil|_=>none)
 | _=>none

mutual
def SV.drop (d:Nat)(p:PV):SV→SV
 | .own t e=>bif e==d then .val t p else .own t e
 | .mp t e=>bif e==d then .dead else .mp t e
 | .ptr e q=>bif e==d then .dead else .ptr e q
 | .agg t l=>.agg t (SV.drops d p l)
 | .fn f l=>.fn f (SV.drops d p l)
 | .tup l=>.tup (SV.drops d p l)
 | s=>s
def SV.drops (d:Nat)(p:PV):List SV→List SV
 | []=>[]
 | s :: l=>SV.drop d p s :: SV.drops d p l
end
def Ob.drop (d:Nat)(p:PV):Ob→Ob
 | .box t s=>.box t (s.drop d p)
 | o=>o
def Obs.drop (d:Nat)(p:PV):Obs→Obs
 | []=>[]
 | (k,o) :: l=>(k,o.drop d p) :: Obs.drop d p l
mutual
def SV.has (d:Nat):SV→Bool
 | .own _ e=>e==d
 | .mp _ e=>e==d
 | .ptr e _=>e==d
 | .agg _ l=>SV.hass d l
 | .fn _ l=>SV.hass d l
 | .tup l=>SV.hass d l
 | _=>false
def SV.hass (d:Nat):List SV→Bool
 | []=>false
 | s :: l=>SV.has d s || SV.hass d l
end
def Ob.has (d:Nat):Ob→Bool
 | .box _ s=>s.has d
 | _=>false
def Ob.frozen:Ob→PV
 | .row _ l=>.list l
 | _=>.nil
def St.retire (st:St)(d:Nat):St :=
 bif !d.blt HL then st else
 match Obs.get st.B d with
 | none=>st
 | some o=>{ T:=SV.drops d o.frozen st.T,B:=Obs.drop d o.frozen (Obs.del d st.B) }
mutual
def SV.kill (d:Nat):SV→SV
 | .own t e=>bif e==d then .dead else .own t e
 | .mp t e=>bif e==d then .dead else .mp t e
 | .ptr e q=>bif e==d then .dead else .ptr e q
 | .agg t l=>.agg t (SV.kills d l)
 | .fn f l=>.fn f (SV.kills d l)
 | .tup l=>.tup (SV.kills d l)
 | s=>s
def SV.kills (d:Nat):List SV→List SV
 | []=>[]
 | s :: l=>SV.kill d s :: SV.kills d l
end
def Ob.kill (d:Nat):Ob→Ob
 | .box t s=>.box t (s.kill d)
 | o=>o
def Obs.kill (d:Nat):Obs→Obs
 | []=>[]
 | (k,o) :: l=>(k,o.kill d) :: Obs.kill d l

mutual
def SV.ren (φ:Nat→Option Nat):SV→SV
 | .own t d=>(match φ d with|some e=>.own t e|none=>.dead)
 | .mp t d=>(match φ d with|some e=>.mp t e|none=>.dead)
 | .ptr d q=>(match φ d with|some e=>.ptr e q|none=>.dead)
 | .agg t l=>.agg t (SV.rens φ l)
 | .fn f l=>.fn f (SV.rens φ l)
 | .tup l=>.tup (SV.rens φ l)
 | s=>s
def SV.rens (φ:Nat→Option Nat):List SV→List SV
 | []=>[]
 | s :: l=>SV.ren φ s :: SV.rens φ l
end
def Ob.ren (φ:Nat→Option Nat):Ob→Ob
 | .box t s=>.box t (s.ren φ)
 | o=>o
def Obs.ren (φ:Nat→Option Nat):Obs→Obs
 | []=>[]
 | (k,o) :: l=>(k,o.ren φ) :: Obs.ren φ l

end Go.X
