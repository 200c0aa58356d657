/- The interpreter X: texts 2 to 2; no statement of the seat is proved here. -/
import Derived.Test.YtmdlhnojpcnnbaaX1
namespace Go.X
open Go

abbrev Out:=List SV × Obs

structure Env where
 P:Program
 nilOwn:Nat→Bool:=fun _=>false
 fldOwn:Nat→Nat→Bool:=fun _ _=>false
 ownPar:FuncId→Nat→Bool:=fun _ _=>false
 ownRet:Bool:=false
 hpD:Nat→Bool:=fun _=>false
 hpF:FuncId→Bool:=fun _=>false
 hpNew:Bool:=false
 fuel:Nat:=0
 mask:Nat→Option (List Nat):=fun _=>none
 C:FuncId→List SV→Obs→(Out→Option Out)→Option Out:=fun _ _ _ _=>none

def roomy (n bytes:Nat):Bool:=decide (n * bytes≤35184372088832)&&decide (n≤35184372088832)

def ofConst (P:Program)(t:TypeId):Value→SV
 | .int k n=>bif (Lit.int k n).wf then .int k n else .dead
 | .bool b=>.bool b
 | .string s=>bif decide (s.size≤1073741824) then .str (chars s) else .dead
 | .float k n=>bif (Lit.float k n).wf then .flt k n else .dead
 | .slice none 0 0=>.nils
 | .pointer none=>.nilp
 | .nilIface=>.nili
 | .agg cs=>bif isAggT P t then (match pvC P 10 t cs.toList with|some p=>.val t p|none=>.dead) else .dead
 | _=>.dead

def St.get (st:St)(P:Program)(t:TypeId):Operand→SV
 | .tmp i=>st.T.getD i .dead
 | .const v=>ofConst P t v
 | .func f=>.fn f []
 | .global _=>.dead
def St.setT (st:St)(d:Nat)(v:SV):St:={ st with T:=st.T.set d v }
def St.put (st:St)(d:Option Nat)(v:SV):St:=match d with|some d=>st.setT d v|none=>st
def St.learn (st:St)(c:Operand)(b:Bool):St:=match c with|.tmp i=>st.setT i (.bool b)|_=>st

def typT (P:Program):TypeId→List Stp→Option TypeId
 | t,[]=>some t
 | t,.fld i :: q=>(match P.underlying t with|some (.struct fs)=>(fs[i]?).bind fun f=>typT P f.type q|_=>none)
 | t,.idx _ :: q=>(match P.underlying t with|some (.array _ e)=>typT P e q|_=>none)
 | _,.el _ :: _=>none
def Ob.typAt (P:Program):Ob→List Stp→Option TypeId
 | .box t _,q=>typT P t q
 | .row e _,.el _ :: q=>typT P e q
 | _,_=>none
def SV.getAt (P:Program)(t:TypeId):SV→List Stp→SV
 | s,[]=>s
 | .agg _ l,.fld i :: q=>SV.getAt P t (l.getD i .dead) q
 | .val _ p,q=>ofPV P t (p.get q)
 | .hval _ p,q=>hv P t (p.get q)
 | _,_=>.dead
def Ob.getAt (P:Program)(t:TypeId):Ob→List Stp→SV
 | .box _ s,q=>s.getAt P t q
 | .row _ l,.el i :: q=>ofPV P t ((l.getD i.toNat .nil).get q)
 | _,_=>.dead
def SV.pvH (P:Program)(t:TypeId):SV→Option PV
 | .hval u p=>bif u==t then some p else none
 | .hptr e i []=>(match P.underlying t with|some (.pointer e')=>bif e'==e then some (.rp i) else none|_=>none)
 | .nilp=>(match P.underlying t with|some (.pointer _)=>some .nil|_=>none)
 | .nils=>(match P.underlying t with|some (.slice _)=>some (.list [])|_=>none)
 | s=>bif pureT P 10 t then s.pvT P t else none
def plainsEH (P:Program)(e:TypeId):List SV→Option (List PV)
 | []=>some []
 | s :: l=>match s.pvH P e,plainsEH P e l with|some p,some r=>some (p :: r)|_,_=>none
def plainsFH (P:Program):List Field→List SV→Option (List PV)
 | [],[]=>some []
 | f :: fs,s :: l=>match s.pvH P f.type,plainsFH P fs l with|some p,some r=>some (p :: r)|_,_=>none
 | _,_=>none
def hvarOf (H:List HE)(i:Nat):PV:=match H[i]? with|some (.var _ p)=>p|_=>.nil
def hrowOf (H:List HE)(i:Nat):List PV:=match H[i]? with|some (.row _ l)=>l|_=>[]
def hokV (H:List HE)(e:TypeId)(i:Nat):Bool:=match H[i]? with|some (.var t _)=>t==e|_=>false
def hokR (H:List HE)(e:TypeId)(i:Nat)(n:Int):Bool:=match H[i]? with|some (.row t l)=>t==e&&(decide (0≤n)&&decide (n < l.length))|_=>false
def hok (H:List HE)(e:TypeId)(i:Nat):List Stp→Bool
 | .el n :: _=>hokR H e i n
 | _=>hokV H e i
def hget (H:List HE)(i:Nat):List Stp→PV
 | .el n :: q=>((hrowOf H i).getD n.toNat .nil).get q
 | q=>(hvarOf H i).get q
def hput (H:List HE)(e:TypeId)(i:Nat)(x:PV):List Stp→List HE
 | .el n :: q=>H.set i (.row e ((hrowOf H i).set n.toNat (((hrowOf H i).getD n.toNat .nil).put q x)))
 | q=>H.set i (.var e ((hvarOf H i).put q x))
def typH (P:Program)(e:TypeId):List Stp→Option TypeId
 | .el _ :: q=>typT P e q
 | q=>typT P e q
def hokS (H:List HE)(e:TypeId):PV→Bool
 | .rs i n=>(match H[i]? with|some (.row t l)=>t==e&&decide (l.length=n)|_=>false)
 | .list []=>true
 | _=>false
def hels (H:List HE):PV→List PV
 | .rs i _=>hrowOf H i
 | _=>[]
def hgone (H:List HE):PV→List HE
 | .rs i _=>H.set i .gone
 | _=>H
def plainsE (P:Program)(e:TypeId):List SV→Option (List PV)
 | []=>some []
 | s :: l=>match s.pvT P e,plainsE P e l with|some p,some r=>some (p :: r)|_,_=>none
def plainsF (P:Program):List Field→List SV→Option (List PV)
 | [],[]=>some []
 | f :: fs,s :: l=>match s.pvT P f.type,plainsF P fs l with|some p,some r=>some (p :: r)|_,_=>none
 | _,_=>none

def St.elems (st:St)(P:Program)(e:TypeId):SV→Option (List PV)
 | .val u p=>(match P.underlying u with|some (.slice e')=>bif e'==e then some p.els else none|_=>none)
 | .nils=>some []
 | .own _ d=>match Obs.get st.B d with|some (.row e' l)=>bif e'==e then some l else none|_=>none
 | _=>none

def intBit (op:BinOp)(k:IntKind)(x y:Int):Int :=
 let a:=BitVec.ofInt k.bits x
 let b:=BitVec.ofInt k.bits y
 match op with
 | .and=>k.wrap (a &&& b).toNat
 | .or=>k.wrap (a ||| b).toNat
 | .xor=>k.wrap (a ^^^ b).toNat
 | _=>k.wrap (a &&& ~~~b).toNat

def lexLt:List Int→List Int→Bool
 | _,[]=>false
 | [],_ :: _=>true
 | a :: x,b :: y=>decide (a < b) || (decide (a=b)&&lexLt x y)

def cmpOk (P:Program):Nat→TypeId→Bool
 | 0,_=>false
 | n+1,t=>match P.underlying t with
  | some (.int _)|some .bool|some .string=>true
  | some (.array _ e)=>cmpOk P n e
  | some (.struct fs)=>!P.stoodInHeld t&&fs.toList.all fun f=>f.name != "_"&&cmpOk P n f.type
  | _=>false

def binI (op:BinOp)(k:IntKind)(a b:Int)(K:SV→Option Out):Option Out :=
 match op with
 | .add=>K (.int k (k.wrap (a+b)))
 | .sub=>K (.int k (k.wrap (a - b)))
 | .mul=>K (.int k (k.wrap (a * b)))
 | .quo=>bif decide (b=0) then none else K (.int k (k.wrap (a.tdiv b)))
 | .rem=>bif decide (b=0) then none else K (.int k (a.tmod b))
 | .and|.or|.xor|.andNot=>K (.int k (intBit op k a b))
 | .eql=>K (.bool (decide (a=b)))
 | .neq=>K (.bool (!decide (a=b)))
 | .lss=>K (.bool (decide (a < b)))
 | .leq=>K (.bool (decide (a≤b)))
 | .gtr=>K (.bool (decide (b < a)))
 | .geq=>K (.bool (decide (b≤a)))
 | _=>none
def binSt (op:BinOp)(a b:List Int)(K:SV→Option Out):Option Out :=
 match op with
 | .add=>bif decide (a.length+b.length≤4611686018427387904) then K (.str (a++b)) else none
 | .eql=>K (.bool (decide (a=b)))
 | .neq=>K (.bool (!decide (a=b)))
 | .lss=>K (.bool (lexLt a b))
 | .leq=>K (.bool (lexLt a b || decide (a=b)))
 | .gtr=>K (.bool !(lexLt a b || decide (a=b)))
 | .geq=>K (.bool !(lexLt a b))
 | _=>none
def SV.isNilLit:SV→Bool
 | .nilp|.nili=>true
 | _=>false
def nilX (P:Program)(op:BinOp)(x:SV)(K:SV→Option Out):Option Out :=
 match x with
 | .val t p=>(match P.underlying t,op with
  | some (.pointer _),.eql=>K (.bool p.isNil)
  | some (.pointer _),.neq=>K (.bool (!p.isNil))
  | _,_=>none)
 | .hval t p=>(match P.underlying t,op with
  | some (.pointer _),.eql=>K (.bool p.isNil)
  | some (.pointer _),.neq=>K (.bool (!p.isNil))
  | _,_=>none)
 | .fro _ _|.ptr _ _|.hptr _ _ _=>(match op with|.eql=>K (.bool false)|.neq=>K (.bool true)|_=>none)
 | _=>none
def binX (P:Program)(op:BinOp)(t:TypeId)(x y:SV)(K:SV→Option Out):Option Out :=
 match x,y with
 | .int k a,.int k' b =>
  (match op with
  | .shl=>bif decide (0≤b) then K (.int k (k.wrap (a * 2 ^ (min b.toNat k.bits)))) else none
  | .shr=>bif decide (0≤b) then K (.int k (a.fdiv (2 ^ (min b.toNat k.bits)))) else none
  | _=>bif decide (k=k') then binI op k a b K else none)
 | .bool a,.bool b=>(match P.underlying t,op with|some .bool,.eql=>K (.bool (a==b))|some .bool,.neq=>K (.bool (!(a==b)))|_,_=>none)
 | .str a,.str b=>binSt op a b K
 | .val u p,.val u' q=>(match op,cmpOk P 20 t&&isAggT P t,(SV.val u p).pvT P t,(SV.val u' q).pvT P t with
  | .eql,true,some p,some q=>K (.bool (PV.beq p q))
  | .neq,true,some p,some q=>K (.bool (!(PV.beq p q)))
  | _,_,_,_=>none)
 | .hval u p,.nils=>bif refT P u&&(isSliceT P u&&isSliceT P t) then (match op with
  | .eql=>K (.bool !p.isRs)
  | .neq=>K (.bool p.isRs)
  | _=>none) else none
 | s,.nilp=>(match P.underlying t with|some (.pointer _)=>nilX P op s K|_=>none)
 | _,_=>none

def bounds (lo hi:Option Int)(len:Nat)(K:Nat→Nat→Option Out):Option Out :=
 let l:=lo.getD 0
 let h:=hi.getD len
 bif decide (0≤l)&&decide (l≤h)&&decide (h≤len) then K l.toNat h.toNat else none

def SV.toInt:SV→Option Int
 | .int _ n=>some n
 | _=>none
def optInt (st:St)(P:Program):Option Operand→Option (Option Int)
 | none=>some none
 | some x=>(st.get P 0 x).toInt.map some

def SV.pass (P:Program)(st:St)(scalar:Bool)(t:TypeId)(s:SV):Option SV :=
 match s with
 | .own _ _=>bif scalar then (match P.underlying t with|some (.slice e)=>(st.elems P e s).map fun l=>.val t (.list l)|_=>none) else none
 | s=>(s.pvT P t).map (ofPV P t)
def passAll (P:Program)(st:St)(scalar:Bool):List TypeId→List SV→Option (List SV)
 | [],[]=>some []
 | t :: ts,s :: l=>match s.pass P st scalar t,passAll P st scalar ts l with
  | some a,some r=>some (a :: r)
  | _,_=>none
 | _,_=>none
def SV.plain:SV→Bool
 | .int _ _|.bool _|.str _|.flt _ _=>true
 | _=>false
def retSV:List SV→SV
 | [s]=>s
 | l=>.tup l
def callQ (E:Env)(st:St)(f:FuncId)(args:List SV)(K:SV→Obs→Option Out):Option Out :=
 match E.P.funcs[f]? with
 | none=>none
 | some fn =>
  match passAll E.P st (fn.resultTypes.toList.all (isScalar E.P)) fn.params.toList args with
  | none=>none
  | some l=>E.C f l [] fun r=>bif r.2.isEmpty&&(!(fn.resultTypes.toList.all (isScalar E.P)) || r.1.all SV.plain) then K (retSV r.1) [] else none

def zeroFs (E:Env)(d:Nat)(p:PV):Nat→List Field→List SV
 | _,[]=>[]
 | i,f :: fs=>(bif E.fldOwn d i then .own f.type ((d+1) * 1000+i) else ofPV E.P f.type (p.fld i)) :: zeroFs E d p (i+1) fs
def zeroRows (E:Env)(d:Nat):Nat→List Field→Obs
 | _,[]=>[]
 | i,f :: fs=>bif E.fldOwn d i then ((d+1) * 1000+i,.row (elemOf E.P f.type) []) :: zeroRows E d (i+1) fs else zeroRows E d (i+1) fs
def rowsOk (E:Env)(d:Nat):Nat→List Field→Bool
 | _,[]=>true
 | i,f :: fs=>(!E.fldOwn d i || (match E.P.underlying f.type with|some (.slice e)=>decide (e < E.P.types.size)|_=>false))&&rowsOk E d (i+1) fs
def hasOwn (E:Env)(d:Nat):Nat→List Field→Bool
 | _,[]=>false
 | i,_ :: fs=>E.fldOwn d i || hasOwn E d (i+1) fs
def fieldsZ (P:Program)(t:TypeId):List Field:=bif isSliceT P t then [{ name:= "",type:=t,offset:=0,embedded:=false,tag:= "",pkgPath:= "",byteOffset:=0 }] else fieldsOf P t
def zeroSV (E:Env)(d:Nat)(t:TypeId):Option (SV × Obs) :=
 match zeroPV E.P t with
 | none=>none
 | some p =>
  let fs:=fieldsZ E.P t
  bif hasOwn E d 0 fs then (bif rowsOk E d 0 fs&&decide (d < 1000∧fs.length < 1000) then some ((bif isSliceT E.P t then .own t ((d+1) * 1000+0) else .agg t (zeroFs E d p 0 fs)),zeroRows E d 0 fs) else none)
  else some (ofPV E.P t p,[])

def zeroDead (P:Program)(t:TypeId):Bool :=
 match P.underlying t,(P.info? t).bind (·.zero) with
 | some (.map _ _),some (.map none)=>true
 | some (.func _ _ _),some .nilFunc=>true
 | _,_=>false
def nilFs (E:Env)(d:Nat)(p:PV):Nat→List Field→List SV
 | _,[]=>[]
 | i,f :: fs=>(bif E.fldOwn d i then .nils else ofPV E.P f.type (p.fld i)) :: nilFs E d p (i+1) fs
def emptyT (P:Program)(t:TypeId):Bool:=decide (P.cellsOf t=0)

def mlook (k z:PV):List PV→PV
 | []=>z
 | x :: l=>bif PV.beq k (x.fld 0) then x.fld 1 else mlook k z l
def mput (k v:PV):List PV→List PV
 | []=>[.agg [k,v]]
 | x :: l=>bif PV.beq k (x.fld 0) then .agg [k,v] :: l else x :: mput k v l
def keyOk (P:Program)(k:TypeId):Bool :=
 match P.underlying k with
 | some (.array _ e)=>(match P.underlying e with|some (.int _)=>cmpOk P 20 k&&decide (k < P.types.size)|_=>false)
 | _=>false

def hpOp (E:Env)(o:Oper):Bool:=E.hpD (o.dst.getD 0)&&(match o.op with|.alloc _|.box _ _|.build _ _|.buildSlice _ _ _|.makeSlice _ _ _=>true|_=>false)
def opH (E:Env)(o:Oper)(st:St)(K:SV→Obs→Option Out):Option Out :=
 let P:=E.P
 match o.op with
 | .alloc t=>(match zeroPV P t with|some z=>bif decide (t < P.types.size) then K (.hptr t (Obs.hps st.B).length []) [(HL,.hvar t z)] else none|none=>none)
 | .box t x=>(match (st.get P t x).pvH P t with|some p=>bif decide (t < P.types.size) then K (.hptr t (Obs.hps st.B).length []) [(HL,.hvar t p)] else none|none=>none)
 | .build t parts =>
  (match P.underlying t,zeroPV P t with
  | some (.struct fs),some z =>
   (match plainsFH P (parts.toList.filterMap fun x=>fs[x.1]?) (parts.toList.map fun x=>st.get P 0 x.2) with
    | some l=>bif parts.toList.all (fun x=>match fs[x.1]? with|some f=>!emptyT P f.type|none=>false) then
      K (.hval t (((parts.toList.map (·.1)).zip l).foldl (fun p x=>p.put [.fld x.1] x.2) z)) []
     else none
    | none=>none)
  | _,_=>none)
 | .buildSlice t n parts =>
  (match P.underlying t with
  | some (.slice e) =>
   (match zeroPV P e,plainsEH P e (parts.toList.map fun x=>st.get P e x.2) with
    | some z,some l =>
     bif refT P t&&(decide (e < P.types.size)&&decide (n * P.cellsOf e≤16777216)&&decide (n≤16777216)&&parts.toList.all (fun x=>decide (x.1 < n))) then
      K (.hval t (.rs (Obs.hps st.B).length n)) [(HL,.hrow e (((parts.toList.map (·.1)).zip l).foldl (fun p x=>p.set x.1 x.2) (List.replicate n z)))]
     else none
    | _,_=>none)
  | _=>none)
 | .makeSlice t l c =>
  (match P.underlying t,st.get P o.type l,st.get P o.type c with
  | some (.slice e),.int _ n,.int _ m=>(match zeroPV P e with
    | some z=>bif refT P t&&(decide (e < P.types.size)&&decide (0≤n)&&decide (n=m)&&roomy n.toNat (P.bytesOf e)) then
      K (.hval t (.rs (Obs.hps st.B).length n.toNat)) [(HL,.hrow e (List.replicate n.toNat z))] else none
    | none=>none)
  | _,_,_=>none)
 | _=>none
def opQ0 (E:Env)(o:Oper)(st:St)(K:SV→Obs→Option Out):Option Out :=
 let P:=E.P
 let g:=st.get P o.type
 let d:=o.dst.getD 0
 match o.op with
 | .move x|.assign x =>
  (match g x with
  | .nils=>bif E.nilOwn d then (match P.underlying o.type with|some (.slice e)=>bif decide (e < P.types.size) then K (.own o.type d) [(d,.row e [])] else none|_=>none) else K .nils []
  | s=>K s [])
 | .pick c a b =>
  (match g c,g a,g b with
  | .bool t,.bool x,.bool y=>K (.bool (bif t then x else y)) []
  | .bool t,x,y=>bif t then K x [] else K y []
  | _,_,_=>none)
 | .alloc t=>bif decide (t < P.types.size) then (match zeroSV E d t with|some (s,os)=>K (.ptr d []) (os++[(d,.box t s)])|none=>bif (zeroPV P t).isNone&&zeroDead P t then K (.ptr d []) [(d,.box t .dead)] else none) else none
 | .box t x=>bif !decide (t < P.types.size) then none else
  (match st.get P t x with
  | .own u e=>bif u==t then K (.ptr d []) [(d,.box t (.own u e))] else none
  | .ptr e q=>(match P.underlying t with|some (.pointer _)=>K (.ptr d []) [(d,.box t (.ptr e q))]|_=>none)
  | .fn f l=>(match P.underlying t with|some (.func _ _ _)=>K (.ptr d []) [(d,.box t (.fn f l))]|_=>none)
  | s=>(match s.pvT P t with|some p=>K (.ptr d []) [(d,.box t (ofPV P t p))]|none=>none))
 | .build t parts =>
  (match P.underlying t,zeroPV P t with
  | some (.struct fs),some z =>
   (match plainsF P (parts.toList.filterMap fun x=>fs[x.1]?) (parts.toList.map fun x=>st.get P 0 x.2) with
    | some l=>bif parts.toList.all (fun x=>match fs[x.1]? with|some f=>!emptyT P f.type|none=>false) then
      let p:=((parts.toList.map (·.1)).zip l).foldl (fun p x=>p.put [.fld x.1] x.2) z
      bif hasOwn E d 0 fs.toList then (bif rowsOk E d 0 fs.toList&&parts.toList.all (fun x=>!E.fldOwn d x.1) then K (.agg t (nilFs E d p 0 fs.toList)) [] else none) else K (.val t p) []
     else none
    | none=>none)
  | some (.array n e),some z =>
   (match plainsE P e (parts.toList.map fun x=>st.get P e x.2) with
    | some l=>bif parts.toList.all (fun x=>decide (x.1 < n)) then K (.val t (((parts.toList.map (·.1)).zip l).foldl (fun p x=>p.put [.idx x.1] x.2) z)) [] else none
    | none=>none)
  | _,_=>none)
 | .buildSlice t n parts =>
  (match P.underlying t with
  | some (.slice e) =>
   (match zeroPV P e,plainsE P e (parts.toList.map fun x=>st.get P e x.2) with
    | some z,some l =>
     bif decide (e < P.types.size)&&decide (n * P.cellsOf e≤16777216)&&decide (n≤16777216)&&parts.toList.all (fun x=>decide (x.1 < n)) then
      let r:=((parts.toList.map (·.1)).zip l).foldl (fun p x=>p.set x.1 x.2) (List.replicate n z)
      bif E.nilOwn d then K (.own t d) [(d,.row e r)] else K (.val t (.list r)) []
     else none
    | _,_=>none)
  | _=>none)
 | .load t a =>
  (match g a with
  | .ptr e q=>(match Obs.get st.B e with
    | some ob=>bif (ob.typAt P q==some t)&&(P.underlying t).isSome then (match ob.getAt P t q with
     | .dead=>none
     | .agg u l=>(match plainsF P (fieldsOf P u) l with|some ps=>K (.val u (.agg ps)) []|none=>none)
     | s=>K s []) else none
    | none=>none)
  | .fro u p=>bif u==t then K (ofPV P t p) [] else none
  | .hptr e i q=>bif (typH P e q==some t)&&(P.underlying t).isSome&&hok (Obs.hps st.B) e i q then K (hv P t (hget (Obs.hps st.B) i q)) [] else none
  | _=>none)
 | .nilCheck x =>
  (match g x with
  | .ptr e q=>K (.ptr e q) []
  | .fro t p=>K (.fro t p) []
  | .fn f l=>K (.fn f l) []
  | .hptr t i q=>K (.hptr t i q) []
  | .hval t p=>(match P.underlying t with|some (.pointer e)=>bif p.isRp then K (.hptr e p.rI []) [] else none|_=>none)
  | .val t p=>(match P.underlying t with|some (.pointer e)=>bif p.isNil then none else K (.fro e p.pointee) []|_=>none)
  | _=>none)
 | .fieldAddr t x f =>
  (match P.underlying t with
  | some (.struct fs)=>(match fs[f]? with
    | some fd=>bif emptyT P fd.type then none else
     (match g x with
     | .ptr e q=>(match Obs.get st.B e with
       | some ob=>bif ob.typAt P q==some t then K (.ptr e (q++[.fld f])) [] else none
       | none=>none)
     | .fro u p=>bif u==t then K (.fro fd.type (p.fld f)) [] else none
     | .hptr e i q=>bif typH P e q==some t then K (.hptr e i (q++[.fld f])) [] else none
     | _=>none)
    | none=>none)
  | _=>none)
 | .indexAddr t x i =>
  (match P.underlying t,g i with
  | some (.array m u),.int _ n =>
   bif (P.underlying u).isSome&&decide (0≤n)&&decide (n < m) then
    (match g x with
     | .ptr e q=>(match Obs.get st.B e with
       | some ob=>bif ob.typAt P q==some t then K (.ptr e (q++[.idx n])) [] else none
       | none=>none)
     | .fro u' p=>bif u'==t then K (.fro u (p.fld n.toNat)) [] else none
     | .hptr e i q=>bif typH P e q==some t then K (.hptr e i (q++[.idx n])) [] else none
     | _=>none)
   else none
  | some (.slice u),.int _ n =>
   (match g x with
    | .own _ e=>(match Obs.get st.B e with
     | some (.row u' l)=>bif (u'==u)&&(P.underlying u).isSome&&decide (0≤n)&&decide (n < l.length) then K (.ptr e [.el n]) [] else none
     | _=>none)
    | .hval _ p=>bif (P.underlying u).isSome&&decide (0≤n)&&decide (n < p.rN) then K (.hptr u p.rI [.el n]) [] else none
    | s=>(match st.elems P u s with
     | some l=>bif (P.underlying u).isSome&&decide (0≤n)&&decide (n < l.length) then K (.fro u (l.getD n.toNat .nil)) [] else none
     | none=>none))
  | _,_=>none)
 | .index t x i =>
  (match g x,g i,P.underlying t with
  | .str s,.int _ n,some .string=>bif decide (0≤n)&&decide (n < s.length) then K (.int .u8 (s.getD n.toNat 0)) [] else none
  | s,.int _ n,some (.array m u)=>(match s.pvT P t with
    | some p=>bif (P.underlying u).isSome&&decide (0≤n)&&decide (n < m) then K (ofPV P u (p.fld n.toNat)) [] else none
    | none=>none)
  | _,_,_=>none)
 | .field t x f =>
  (match g x with
  | .hval u p=>(match P.underlying t with
    | some (.struct fs)=>(match fs[f]? with|some fd=>bif (u==t)&&(P.underlying fd.type).isSome then K (hv P fd.type (p.fld f)) [] else none|none=>none)
    | _=>none)
  | s=>(match P.underlying t,s.pvT P t with
   | some (.struct fs),some p=>(match fs[f]? with|some fd=>bif (P.underlying fd.type).isSome then K (ofPV P fd.type (p.fld f)) [] else none|none=>none)
   | _,_=>none))
 | .extract x i=>(match g x with|.tup l=>(match l[i]? with|some s=>K s []|none=>none)|_=>none)
 | .slice t x lo hi none =>
  (match P.underlying t,optInt st P lo,optInt st P hi with
  | some .string,some l,some h=>(match g x with
    | .str s=>bounds l h s.length fun a b=>K (.str ((s.take b).drop a)) []
    | _=>none)
  | some (.slice e),some l,some h=>(match g x with
    | .val u p=>bif (u==t)&&(P.underlying e).isSome then bounds l h p.els.length fun a b=>K (.val u (.list ((p.els.take b).drop a))) [] else none
    | .hval u p=>bif (u==t)&&p.isRs&&refT P u&&decide (P.cellsOf e=1)&&h.isNone&&(P.underlying e).isSome then bounds l none p.rN fun a _=>K (.hsub u p.rI p.rN a) [] else none
    | _=>none)
  | _,_,_=>none)
 | .binOp op t x y _=>binX P op t (st.get P t x) (st.get P t y) fun s=>K s []
 | .unOp op _ x =>
  (match op,g x with
  | .neg,.int k n=>K (.int k (k.wrap (0 - n))) []
  | .xor,.int k n=>K (.int k (intBit .xor k (if k.signed then -1 else k.max) n)) []
  | .not,.bool b=>K (.bool !b) []
  | _,_=>none)
 | .convert s t x =>
  (match P.underlying s,P.underlying t,g x with
  | some (.int _),some (.int k),.int _ n=>K (.int k (k.wrap n)) []
  | some .string,some .string,.str l=>K (.str l) []
  | some .string,some (.slice e),.str l=>(match P.underlying e with
    | some (.int .u8)=>bif decide (e < P.types.size)&&roomy l.length 1 then (bif E.nilOwn d then K (.own t d) [(d,.row e (l.map .int))] else K (.val t (.list (l.map .int))) []) else none
    | _=>none)
  | some (.slice e),some .string,v=>(match P.underlying e,st.elems P e v with
    | some (.int .u8),some l=>bif decide (e < P.types.size) then K (.str (l.map PV.num)) [] else none
    | _,_=>none)
  | _,_,_=>none)
 | .makeFunc (.func f) first caps=>bif first.isEmpty then K (.fn f (caps.toList.map g)) [] else none
 | .makeMap t none=>(match P.underlying t with|some (.map _ _)=>K (.mp t d) [(d,.map t [])]|_=>none)
 | .lookup t x i false =>
  (match P.underlying t,st.get P t x with
  | some (.map k e),.mp _ m =>
   (match Obs.get st.B m,(st.get P k i).pvT P k,zeroPV P e with
    | some (.map t' l),some pk,some z=>bif (t'==t)&&keyOk P k then K (ofPV P e (mlook pk z l)) [] else none
    | _,_,_=>none)
  | _,_=>none)
 | .makeSlice t l c =>
  (match P.underlying t,g l,g c with
  | some (.slice e),.int _ n,.int _ m=>(match zeroPV P e with
    | some z=>bif decide (e < P.types.size)&&decide (0≤n)&&decide (n=m)&&roomy n.toNat (P.bytesOf e) then
      (bif E.nilOwn d then K (.own t d) [(d,.row e (List.replicate n.toNat z))] else K (.val t (.list (List.replicate n.toNat z))) []) else none
    | none=>none)
  | _,_,_=>none)
 | .call { callee:=.builtin .len,args,argTypes } =>
  (match args.toList.map g,argTypes[0]? with
  | [s],some t=>(match P.underlying t,s with
    | some .string,.str l=>K (.int .i64 l.length) []
    | some (.slice _),.hval u p=>bif refT P u&&isSliceT P u then K (.int .i64 p.rN) [] else none
    | some (.slice e),s=>(match st.elems P e s with|some l=>K (.int .i64 l.length) []|none=>none)
    | _,_=>none)
  | _,_=>none)
 | .call { callee:=.builtin .min,args,.. } =>
  (match args.toList.map g with
  | [x,y]=>(match x,y with
   | .int k a,.int k' b=>bif decide (k=k') then K (.int k (if b < a then b else a)) [] else none
   | _,_=>none)
  | _=>none)
 | .call { callee:=.builtin .max,args,.. } =>
  (match args.toList.map g with
  | [x,y]=>(match x,y with
   | .int k a,.int k' b=>bif decide (k=k') then K (.int k (if a < b then b else a)) [] else none
   | _,_=>none)
  | _=>none)
 | .call { callee:=.value (.func f),args,.. }=>callQ E st f (args.toList.map g) K
 | _=>none

def opQ (E:Env)(o:Oper)(st:St)(K:SV→Obs→Option Out):Option Out:=bif hpOp E o then (bif Obs.hasH st.B then opH E o st K else none) else opQ0 E o st K

end Go.X
