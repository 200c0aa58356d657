/- The interpreter X: texts 3 to 3; no statement of the seat is proved here. -/
import Derived.Test.YtmdlhnojpcnnbaaX2
import Derived.Orders
namespace Go.X
open Go

def St.lay (st:St):Obs→St
 | []=>st
 | (d,o) :: l=>bif d==HL then St.lay { st with B:=Obs.setH (Obs.hps st.B++[o.he]) st.B } l
  else St.lay { st.retire d with B:=Obs.ins d o (st.retire d).B } l

def ownsOf:SV→List Nat
 | .own _ d=>[d]
 | .agg _ l=>l.filterMap fun s=>match s with|.own _ d=>some d|_=>none
 | _=>[]
def handOwns:SV→List Nat
 | .mp _ d=>[d]
 | s=>ownsOf s
def look (n:Nat):List (Nat × Nat)→Option Nat
 | []=>none
 | (a,b) :: l=>bif a==n then some b else look n l
def nodupB:List Nat→Bool
 | []=>true
 | a :: l=>!(l.contains a)&&nodupB l
def handBox (st:St)(d L:Nat):List (Nat × Nat) :=
 (d,L) :: (match Obs.get st.B d with|some (.box _ s)=>(handOwns s).zipIdx.map fun x=>(x.1,L+1+x.2)|_=>[])
def handMap (E:Env)(st:St)(f:FuncId):Nat→List SV→List (Nat × Nat)
 | _,[]=>[]
 | i,s :: l=>(match s with
  | .ptr d _=>handBox st d (lowB * (i+1))
  | .own _ d=>bif E.ownPar f i then [(d,lowB * (i+1))] else []
  | .fn _ caps=>caps.zipIdx.flatMap fun x=>(match x.1 with|.ptr d _=>handBox st d (lowB * (i+1)+(x.2+1) * 1000)|_=>[])
  | _=>[])++handMap E st f (i+1) l
def hpPair (st:St):List (Nat × Nat):=match Obs.get0 st.B HL with|some (.hp _)=>[(HL,HL)]|_=>[]
def hpOut (P:Program)(t:TypeId):SV→Option SV
 | .hval u p=>some (.hval u p)
 | .hptr e i []=>(match P.underlying t with|some (.pointer e')=>bif e'==e&&refT P t then some (.hval t (.rp i)) else none|_=>none)
 | _=>none
def handS (E:Env)(st:St)(m:List (Nat × Nat))(f:FuncId)(t:TypeId)(i:Nat):SV→Option (SV × Obs)
 | .ptr d q=>some ((SV.ptr d q).ren (look · m),[])
 | .fn g caps=>some ((SV.fn g caps).ren (look · m),[])
 | .hval u p=>(hpOut E.P t (.hval u p)).map (·,[])
 | .hptr e j q=>(hpOut E.P t (.hptr e j q)).map (·,[])
 | .own u d=>bif E.ownPar f i then some ((SV.own u d).ren (look · m),[]) else none
 | .nils=>bif E.ownPar f i then (match E.P.underlying t with|some (.slice e)=>bif decide (e < E.P.types.size) then some (.own t (lowB * (i+1)),[(lowB * (i+1),.row e [])]) else none|_=>none)
   else ((SV.nils).pass E.P st false t).map (·,[])
 | s=>(s.pass E.P st false t).map (·,[])
def handAll (E:Env)(st:St)(m:List (Nat × Nat))(f:FuncId):Nat→List TypeId→List SV→Option (List SV × Obs)
 | _,[],[]=>some ([],[])
 | i,t :: ts,s :: l=>match handS E st m f t i s,handAll E st m f (i+1) ts l with
  | some (s',os),some (l',os')=>some (s' :: l',os++os')
  | _,_=>none
 | _,_,_=>none
def handObs (st:St)(m:List (Nat × Nat)):List (Nat × Nat)→Option Obs
 | []=>some []
 | (d,n) :: l=>match Obs.get st.B d,handObs st m l with
  | some o,some os=>some ((n,o.ren (look · m)) :: os)
  | _,_=>none
def Ob.isRow:Ob→Bool
 | .row _ _=>true
 | _=>false
def keepφ (st:St)(m:List (Nat × Nat))(d:Nat):Option Nat :=
 bif !d.blt HL then none else
 match look d m,Obs.get st.B d with
 | some _,some (.box _ _)=>some d
 | some _,some _=>none
 | _,_=>some d
def backAll (φ:Nat→Option Nat)(B':Obs):List (Nat × Nat)→Obs→Obs
 | [],B=>B
 | (n,d) :: l,B=>match Obs.get B' n with
  | some o=>backAll φ B' l (Obs.ins d (o.ren φ) (Obs.del d B))
  | none=>backAll φ B' l (Obs.del d B)
def boxKept (st:St)(B':Obs):List (Nat × Nat)→Bool
 | []=>true
 | (d,n) :: l=>(match Obs.get st.B d,Obs.get B' n with|some (.box _ _),none=>false|_,_=>true)&&boxKept st B' l
def hpKept (st:St)(B':Obs):Bool:=match hpPair st with|[]=>(Obs.get0 B' HL).isNone|_=>true
def retireAll:List Nat→St→St
 | [],st=>st
 | d :: l,st=>retireAll l (st.retire d)
def newRes (m:List (Nat × Nat))(dl:Nat):List SV→List (Nat × Nat)
 | [.own _ n]=>bif (m.map (·.2)).contains n then [] else [(n,dl)]
 | _=>[]

def isOwnArg (E:Env)(f:FuncId):Nat→List SV→Bool
 | _,[]=>false
 | _,.ptr _ _ :: _=>true
 | _,.fn _ _ :: _=>true
 | _,.hval _ _ :: _=>true
 | _,.hptr _ _ _ :: _=>true
 | i,.own _ _ :: l=>E.ownPar f i || isOwnArg E f (i+1) l
 | i,.nils :: l=>E.ownPar f i || isOwnArg E f (i+1) l
 | i,_ :: l=>isOwnArg E f (i+1) l

def appended (P:Program)(st:St)(e xt:TypeId)(x:SV):Option (List PV) :=
 match P.underlying xt,x with
 | some .string,.str l=>(match P.underlying e with|some (.int .u8)=>some (l.map .int)|_=>none)
 | some (.slice e'),x=>bif e'==e then st.elems P e x else none
 | _,_=>none
def expand (P:Program)(t:TypeId)(p:PV):SV:=.agg t ((fieldsOf P t).zipIdx.map fun (f,i)=>ofPV P f.type (p.fld i))
def fieldT (P:Program)(u:TypeId)(i:Nat):TypeId:=(((fieldsOf P u)[i]?).map (·.type)).getD 0
def SV.putL (P:Program)(lf:SV)(px:Option PV):TypeId→SV→List Stp→SV
 | _,_,[]=>lf
 | _,.agg u l,.fld i :: q=>.agg u (l.set i (SV.putL P lf px (fieldT P u i) (l.getD i .dead) q))
 | t,.val _ p,.fld i :: q=>(match px,q with
  | some x,_=>.val t (p.put (.fld i :: q) x)
  | none,[]=>(match expand P t p with|.agg u l=>.agg u (l.set i lf)|_=>.dead)
  | none,_=>.dead)
 | t,.val _ p,.idx i :: q=>(match px with
  | some x=>.val t (p.put (.idx i :: q) x)
  | none=>.dead)
 | _,_,_=>.dead
def SV.isHandle (P:Program)(t:TypeId):SV→Bool
 | .own u _=>u==t
 | .mp u _=>u==t
 | .ptr _ _=>match P.underlying t with|some (.pointer _)=>true|_=>false
 | .fn _ _=>match P.underlying t with|some (.func _ _ _)=>true|_=>false
 | .hval u _=>u==t
 | _=>false
def SV.isWhole (t:TypeId):SV→Bool
 | .agg u _=>u==t
 | _=>false
def Ob.putAt (P:Program)(t:TypeId)(v:SV):Ob→List Stp→Option Ob
 | .box u s,q=>match v.pvT P t with
  | some x=>some (.box u (SV.putL P (ofPV P t x) (some x) u s q))
  | none=>bif v.isHandle P t || v.isWhole t then some (.box u (SV.putL P v none u s q)) else none
 | .row e l,.el i :: q=>(v.pvT P t).map fun x=>.row e (l.set i.toNat ((l.getD i.toNat .nil).put q x))
 | _,_=>none

def callE (E:Env)(o:Oper)(st:St)(f:FuncId)(args:List SV)(K:St→Option Out):Option Out :=
 match E.P.funcs[f]? with
 | none=>none
 | some fn =>
  let mm:=handMap E st f 0 args
  let m:=hpPair st++mm
  match handAll E st m f 0 (fn.params.toList++List.replicate fn.nfree 0) args,handObs st m m with
  | some (l,extra),some os =>
   bif (mm.all fun x=>x.1.blt HL&&x.2.blt HL)&&(extra.all fun x=>x.1.blt HL)&&(nodupB (m.map (·.1))&&nodupB ((m.map (·.2))++extra.map (·.1))) then
    E.C f l (os++extra) fun r =>
     let nw:=newRes m (o.dst.getD 0) r.1
     let inv:=nw++m.map fun x=>(x.2,x.1)
     let e:=retireAll ((r.2.map (·.1)).filter fun n=>!(inv.map (·.1)).contains n) { T:=r.1,B:=r.2 }
     bif boxKept st e.B m&&hpKept st e.B&&(nw.isEmpty || (!(m.map (·.1)).contains (o.dst.getD 0)&&(Obs.get st.B (o.dst.getD 0)).isNone)) then
      K (({ T:=SV.rens (keepφ st m) st.T,B:=backAll (look · inv) e.B inv (Obs.ren (keepφ st m) st.B) }:St).put o.dst (retSV (SV.rens (look · inv) e.T)))
     else none
   else none
  | _,_=>none

def hpEff (E:Env)(o:Oper)(st:St):Bool :=
 match o.op with
 | .store _ a _=>(match st.get E.P 0 a with|.hptr _ _ _=>true|_=>false)
 | .call { callee:=.builtin .copy,args,.. }=>(match args.toList with|x :: _=>(match st.get E.P o.type x with|.hval _ _=>true|.hsub _ _ _ _=>true|_=>false)|_=>false)
 | .call { callee:=.builtin .append,args,.. }=>(match args.toList with|x :: _=>(match st.get E.P o.type x with|.hval _ _=>true|_=>false)|_=>false)
 | _=>false
def opEH (E:Env)(o:Oper)(st:St)(K:St→Option Out):Option Out :=
 let P:=E.P
 match o.op with
 | .store t a v =>
  (match st.get P 0 a with
  | .hptr e i q=>bif (typH P e q==some t)&&hok (Obs.hps st.B) e i q then
    (match (st.get P t v).pvH P t with
     | some x=>K (({ st with B:=Obs.setH (hput (Obs.hps st.B) e i x q) st.B }:St).put o.dst .undef)
     | none=>none) else none
  | _=>none)
 | .call { callee:=.builtin .copy,args,argTypes } =>
  (match args.toList.map (st.get P o.type),(argTypes[0]?).bind P.underlying with
  | [.hval t p,.hval u p'],some (.slice e) =>
   bif hokS (Obs.hps st.B) e p&&hokS (Obs.hps st.B) e p'&&(p.isRs&&p'.isRs)&&refT P t&&(argTypes[0]?==some t)&&(u==t)&&decide (P.cellsOf e=1)&&decide (argTypes.size=2) then
    K (({ st with B:=Obs.setH ((Obs.hps st.B).set p.rI (.row e ((hels (Obs.hps st.B) p').take p.rN++(hels (Obs.hps st.B) p).drop p'.rN))) st.B }:St).put o.dst (.int .i64 (min p.rN p'.rN)))
   else none
  | [.hsub t i n a,.hsub u j m b],some (.slice e) =>
   bif hokS (Obs.hps st.B) e (.rs i n)&&hokS (Obs.hps st.B) e (.rs j m)&&(argTypes[0]?==some t)&&(u==t)&&decide (P.cellsOf e=1)&&decide (argTypes.size=2) then
    K (({ st with B:=Obs.setH ((Obs.hps st.B).set i (.row e ((hrowOf (Obs.hps st.B) i).take a++(((hrowOf (Obs.hps st.B) j).drop b).take (n - a)++(hrowOf (Obs.hps st.B) i).drop (a+(m - b)))))) st.B }:St).put o.dst (.int .i64 ((Nat.min (m - b) (n - a):Nat):Int)))
   else none
  | _,_=>none)
 | .call { callee:=.builtin .append,args,argTypes } =>
  (match args.toList.map (st.get P o.type),(argTypes[0]?).bind P.underlying with
  | [.hval t p,.hval u p'],some (.slice e) =>
   (match zeroPV P e with
    | some _=>bif hokS (Obs.hps st.B) e p&&hokS (Obs.hps st.B) e p'&&refT P t&&(u==t)&&decide (e < P.types.size)&&decide (argTypes.size=2)&&(argTypes[0]?==some t)&&(argTypes[1]?==some t)&&(p.isRs || decide (0 < p'.rN))&&roomy (p.rN+p'.rN) (P.bytesOf e) then
      K (({ st with B:=Obs.setH (hgone (Obs.hps st.B) p++[.row e (hels (Obs.hps st.B) p++hels (Obs.hps st.B) p')]) st.B }:St).put o.dst (.hval t (.rs (Obs.hps st.B).length (p.rN+p'.rN))))
     else none
    | none=>none)
  | _,_=>none)
 | _=>none
def opE0 (E:Env)(o:Oper)(st:St)(K:St→Option Out):Option Out :=
 let P:=E.P
 match o.op with
 | .store t a v =>
  (match st.get P 0 a with
  | .ptr d q=>(match Obs.get st.B d with
    | some ob=>bif ob.typAt P q==some t then
     (match ob.putAt P t (st.get P t v) q with
     | some ob'=>K (({ st with B:=Obs.ins d ob' (Obs.del d st.B) }:St).put o.dst .undef)
     | none=>none) else none
    | none=>none)
  | _=>none)
 | .call { callee:=.builtin .append,args,argTypes } =>
  (match args.toList.map (st.get P o.type),(argTypes[0]?).bind P.underlying with
  | [s,x],some (.slice e) =>
   (match appended P st e (argTypes.getD 1 0) x,zeroPV P e with
    | none,_|_,none=>none
    | some m,some _=>bif !decide (e < P.types.size) || !decide (argTypes.size=2) then none else
     (match s with
     | .nils=>bif roomy m.length (P.bytesOf e) then
       K ((st.lay [(o.dst.getD 0,.row e m)]).put o.dst (.own (argTypes.getD 0 0) (o.dst.getD 0))) else none
     | .own u d=>(match Obs.get st.B d with
       | some (.row e' l)=>bif (e'==e)&&roomy (l.length+m.length) (P.bytesOf e) then
         K (({ T:=SV.kills d st.T,B:=Obs.ins d (.row e (l++m)) (Obs.del d (Obs.kill d st.B)) }:St).put o.dst (.own u d)) else none
       | _=>none)
     | _=>none))
  | _,_=>none)
 | .mapUpdate t m i v =>
  (match P.underlying t,st.get P t m with
  | some (.map k e),.mp _ d =>
   (match Obs.get st.B d,(st.get P k i).pvT P k,(st.get P e v).pvT P e with
    | some (.map t' l),some pk,some pv=>bif (t'==t)&&keyOk P k then K (({ st with B:=Obs.ins d (.map t (mput pk pv l)) (Obs.del d st.B) }:St).put o.dst .undef) else none
    | _,_,_=>none)
  | _,_=>none)
 | .convert s t x =>
  (match st.get P o.type x,P.underlying t with
  | .own u d,some (.slice e)=>bif (s==t)&&(match P.underlying e with|some (.int .u8)=>true|_=>false)&&(match Obs.get st.B d with|some (.row _ (_ :: _))=>true|_=>false) then K (st.put o.dst (.own u d)) else none
  | _,_=>none)
 | .call { callee:=.value (.func f),args,.. }=>callE E o st f (args.toList.map (st.get P 0)) K
 | .call { callee:=.value (.tmp i),args,.. } =>
  (match st.T.getD i .dead with
  | .fn f caps=>callE E o st f (args.toList.map (st.get P 0)++caps) K
  | _=>none)
 | _=>none

def opE (E:Env)(o:Oper)(st:St)(K:St→Option Out):Option Out:=bif hpEff E o st then (bif Obs.hasH st.B then opEH E o st K else none) else opE0 E o st K

def isE (E:Env)(o:Oper)(st:St):Bool :=
 match o.op with
 | .store _ _ _=>true
 | .mapUpdate _ _ _ _=>true
 | .call { callee:=.builtin .append,.. }=>true
 | .call { callee:=.builtin .copy,.. }=>true
 | .call { callee:=.value (.func f),args,.. }=>isOwnArg E f 0 (args.toList.map (st.get E.P 0)) || E.hpF f
 | .call { callee:=.value (.tmp _),.. }=>true
 | .convert _ _ x=>(match st.get E.P o.type x with|.own _ _=>(match E.P.underlying o.type with|some (.slice _)=>true|_=>false)|_=>false)
 | _=>false

def ownsArgs (E:Env)(f:FuncId):Nat→List SV→List Nat
 | _,[]=>[]
 | i,s :: l=>(bif E.ownPar f i then [] else ownsOf s)++ownsArgs E f (i+1) l
def freezeOp (E:Env)(o:Oper)(st:St):St :=
 match o.op with
 | .call { callee:=.value (.func f),args,.. } =>
  bif ((E.P.funcs[f]?).any fun fn=>fn.resultTypes.toList.all (isScalar E.P))&&!(isOwnArg E f 0 (args.toList.map (st.get E.P 0)) || E.hpF f) then st
  else retireAll (ownsArgs E f 0 (args.toList.map (st.get E.P 0))) st
 | .call { callee:=.value (.tmp _),args,.. }=>retireAll ((args.toList.map (st.get E.P 0)).flatMap ownsOf) st
 | .buildSlice _ _ parts|.build _ parts=>retireAll (parts.toList.flatMap fun x=>ownsOf (st.get E.P 0 x.2)) st
 | .load t a =>
  (match st.get E.P 0 a with
  | .ptr e q=>(match Obs.get st.B e with|some ob=>(match ob.getAt E.P t q with|.agg u l=>retireAll (ownsOf (.agg u l)) st|_=>st)|none=>st)
  | _=>st)
 | _=>st

def retireOp (E:Env)(o:Oper)(st:St):St :=
 let d:=o.dst.getD 0
 match o.op with
 | .box _ _|.buildSlice _ _ _|.makeSlice _ _ _|.convert _ _ _|.makeMap _ _=>st.retire d
 | .alloc t=>retireAll ((zeroRows E d 0 (fieldsZ E.P t)).map (·.1)) (st.retire d)
 | .call { callee:=.value (.func f),args,.. } =>
  let l:=args.toList.map (st.get E.P 0)
  bif isOwnArg E f 0 l then (bif ((handMap E st f 0 l).map (·.1)).contains d then st else st.retire d) else st
 | _=>st

def opX (E:Env)(o:Oper)(st:St)(K:St→Option Out):Option Out :=
 let st:=retireOp E o (freezeOp E o st)
 bif !(o.dst.getD 0).blt lowB then none else
 bif isE E o st then opE E o st K
 else opQ E o st fun s os=>K ((st.lay os).put o.dst s)

def maskT (l:List Nat):Nat→List SV→List SV
 | _,[]=>[]
 | i,s :: T=>(bif l.contains i then s else .dead) :: maskT l (i+1) T
def St.msk (E:Env)(key:Nat)(st:St):St :=
 match E.mask key with
 | none=>st
 | some l=>{ st with T:=maskT l 0 st.T }
def dstKey (o:Oper):Nat:=3 * o.dst.getD 0+2

def execOps (E:Env)(ops:Array Oper):List Oper→(St→Option Out)→St→Option Out
 | [],K,st=>K st
 | o :: rest,K,st =>
  match o.guard with
  | none=>opX E o (st.msk E (dstKey o)) (execOps E ops rest K)
  | some (j,want) =>
   match (ops[j]?).bind (·.dst) with
   | none=>none
   | some dj =>
    match st.T.getD dj .dead with
    | .bool b=>bif b==want then opX E o (st.setT dj (.bool want)) (execOps E ops rest K)
      else execOps E ops rest K ((st.setT dj (.bool !want)).put o.dst .undef)
    | .undef=>execOps E ops rest K (st.put o.dst .undef)
    | _=>none

def lateFs:List Nat:=[17,18,21,30,50,52,53,60,61,74,77,78,89,90,91,105,106,107,112]
def isH (o:Oper):Bool:=match o.op with|.call { callee:=.value (.func f),.. }=>lateFs.contains f|_=>false
def lateOp (o:Oper):Bool :=
 isH o ||
 match o.op with
 | .store _ _ _=>true
 | .call { callee:=.builtin .append,.. }=>true
 | .call { callee:=.builtin .copy,.. }=>true
 | .call { callee:=.value (.func _),args,.. }=>o.guard.isSome&&(match args.toList with|[.tmp _,.const (.string _)]=>true|_=>false)
 | _=>false
def isAllocOf (t:TypeId)(o:Oper):Bool:=match o.op with|.alloc u=>u==t|_=>false
def freshSt (ops:Array Oper)(o:Oper):Bool :=
 match o.op with
 | .store t (.tmp a) _=>ops.toList.any fun x=>x.dst==some a&&isAllocOf t x
 | _=>false
def lateIn (ops:Array Oper)(o:Oper):Bool:=lateOp o&&!freshSt ops o
def isLoadT (o:Oper):Bool:=match o.op with|.load _ (.tmp _)=>o.dst.isSome&&o.guard.isNone|_=>false
def waitsD (ops:Array Oper)(y x:Oper):Bool:=y.after.toList.any fun e=>Region.binds .any e&&(match ops[e.on]? with|some z=>z.dst==x.dst|none=>false)
def isAppT (o:Oper):Bool:=match o.op with|.call { callee:=.builtin .append,.. }=>o.dst.isSome&&o.guard.isNone|_=>false
def isQ3 (o:Oper):Bool:=o.dst.isSome&&o.guard.isNone&&(match o.op with|.load _ (.tmp _)|.fieldAddr _ (.tmp _) _|.indexAddr _ (.tmp _) _=>true|_=>false)
def isY1 (o:Oper):Bool:=match o.op with|.call { callee:=.value (.func _),.. }=>o.dst.isSome&&o.guard.isNone|.buildSlice _ _ _=>o.dst.isSome&&o.guard.isNone|.build _ _=>o.dst.isSome&&o.guard.isNone|.call { callee:=.builtin .append,.. }=>o.dst.isSome&&o.guard.isNone|_=>false
def opAt (ops:Array Oper)(p:Oper→Bool)(j:Nat):Bool:=match ops[j]? with|some o=>p o|none=>false
def bAny (bf:Array Nat)(L:List Nat)(j:Nat):Bool:=L.any fun l=>(bf.getD j 0).testBit l
def lateIx (ops:Array Oper):List Nat:=(List.range ops.size).filter (opAt ops (lateIn ops))
def pLoad (ops:Array Oper)(bf:Array Nat)(L:List Nat)(j:Nat):Bool:=opAt ops isLoadT j&&!bAny bf L j&&L.any fun l=>!(bf.getD l 0).testBit j
def xIx (ops:Array Oper):List Nat :=
 let bf:=Region.before ops
 let L:=lateIx ops
 let P:=(List.range ops.size).filter (pLoad ops bf L)
 (List.range ops.size).filter fun j=>!opAt ops (lateIn ops) j&&!bAny bf L j&&(P.contains j || bAny bf P j)
def yIx (ops:Array Oper):List Nat :=
 let bf:=Region.before ops
 let L:=lateIx ops
 (List.range ops.size).filter fun j=>opAt ops (lateIn ops) j || bAny bf L j
def y1Ix (ops:Array Oper):List Nat:=let bf:=Region.before ops;let X:=xIx ops;(yIx ops).filter fun y=>X.any fun x=>!(bf.getD y 0).testBit x
def y2Ix (ops:Array Oper):List Nat:=let bf:=Region.before ops;let X:=xIx ops;(yIx ops).filter fun y=>X.all fun x=>(bf.getD y 0).testBit x
def anyReg (ops:Array Oper):Bool:=ops.toList.any isH || !(xIx ops).isEmpty
def tailOp (ops:Array Oper)(o:Oper):Bool :=
 bif anyReg ops then lateIn ops o || (match o.dst with|some d=>(yIx ops).any (opAt ops fun x=>x.dst==some d)|none=>true)
 else
 lateIn ops o || o.after.toList.any fun e=>Region.binds .any e&&(match ops[e.on]? with|some x=>lateIn ops x|none=>true)
def cloOp (o:Oper):Bool:=match o.op with|.call { callee:=.value (.tmp _),.. }=>true|_=>false
def nHead (ops:Array Oper):Nat:=(ops.toList.reverse.dropWhile fun o=>!cloOp o).length
def headOp (ops:Array Oper)(o:Oper):Bool :=
 match o.dst with
 | some d=>(ops.toList.take (nHead ops)).any fun x=>x.dst==some d
 | none=>false
def skipOp (ops:Array Oper)(o:Oper):Bool:=tailOp ops o || headOp ops o
def tailAt (ops:Array Oper)(j:Nat):Bool:=match ops[j]? with|some o=>tailOp ops o&&!headOp ops o|none=>false
def laysOp (o:Oper):Bool :=
 match o.op with
 | .box _ _|.buildSlice _ _ _|.makeSlice _ _ _|.convert _ _ _|.makeMap _ _|.alloc _=>true
 | _=>false
def bareAlloc (E:Env)(o:Oper):Bool:=match o.op with|.alloc t=>(zeroRows E (o.dst.getD 0) 0 (fieldsZ E.P t)).isEmpty|_=>true
def fullRow:Option Ob→Bool
 | some (.row _ (_ :: _))=>true
 | _=>false
def convA (E:Env)(o:Oper)(st:St):Option SV :=
 match o.op with
 | .convert s t x =>
  (match st.get E.P o.type x,E.P.underlying t with
  | .own u d,some (.slice e)=>bif (s==t)&&(match E.P.underlying e with|some (.int .u8)=>true|_=>false) then some (.own u d) else none
  | _,_=>none)
 | _=>none
def stA (E:Env)(o:Oper)(st:St)(os:Obs):Option (Nat × Ob) :=
 match o.op with
 | .store t (.tmp a) x =>
  (match st.T.getD a .dead,Obs.get0 os a with
  | .ptr d [],some (.box u s)=>bif d==a&&u==t&&o.dst.isNone&&a.blt lowB then (match (Ob.box u s).putAt E.P t (st.get E.P t x) [] with|some ob=>some (a,ob)|none=>none) else none
  | _,_=>none)
 | _=>none
def isBuildSl (o:Oper):Bool:=match o.op with|.buildSlice _ _ _=>true|_=>false
def linOf (ops:Array Oper)(o:Oper):Option Nat :=
 match o.op with
 | .convert s t (.tmp a)=>bif s==t&&o.guard.isNone&&(ops.toList.any fun x=>x.dst==some a&&isBuildSl x)&&!skipOp ops o then some a else none
 | _=>none
def linT (ops:Array Oper):List Nat:=ops.toList.filterMap (linOf ops)
def killL (L:List Nat)(T:List SV):List SV:=L.foldl (fun T a=>T.set a .dead) T
def linClean (L:List Nat)(T0 T:List SV)(B os:Obs):Bool :=
 L.all fun d=>(T0.all fun s=>!s.has d)&&((T.zipIdx.all fun x=>x.2==d || !x.1.has d)&&((B.all fun x=>!x.2.has d)&&(os.all fun x=>!x.2.has d)))
def stepA (E:Env)(ops:Array Oper)(o:Oper)(st:St)(os:Obs)(K:St→Obs→Option Out):Option Out :=
 match linOf ops o with
 | some a =>
  (match convA E o st with
  | some (.own u d)=>bif d==a then (match Obs.get0 os a with|some (.row _ (x :: l))=>K (st.put o.dst (.val u (.list (x :: l)))) os|_=>none) else none
  | _=>none)
 | none =>
  bif isE E o st || !bareAlloc E o then (match stA E o st os with|some y=>K st (y :: os)|none=>none) else
  opQ E o st fun s l=>match l with
   | []=>K (st.put o.dst s) os
   | [(d,ob)]=>bif d==HL then (bif Obs.hasH st.B&&os.all (fun x=>!(x.1==HL)) then K (st.put o.dst s) ((HL,ob) :: os) else none)
     else bif o.dst==some d&&laysOp o&&d.blt lowB then K (st.put o.dst s) ((d,ob) :: os) else none
   | _=>none
def execA (E:Env)(ops:Array Oper):List Oper→(St→Obs→Option Out)→St→Obs→Option Out
 | [],K,st,os=>K st os
 | o :: rest,K,st,os =>
  match o.guard with
  | none=>stepA E ops o st os (execA E ops rest K)
  | some (j,want) =>
   match (ops[j]?).bind (·.dst) with
   | none=>none
   | some dj =>
    match st.T.getD dj .dead with
    | .bool b=>bif b==want then stepA E ops o (st.setT dj (.bool want)) os (execA E ops rest K) else execA E ops rest K ((st.setT dj (.bool !want)).put o.dst .undef) os
    | .undef=>execA E ops rest K (st.put o.dst .undef) os
    | _=>none
def pushA (x:Nat × Ob)(B:Obs):Obs:=bif x.1==HL then Obs.setH (Obs.hps B++[x.2.he]) B else Obs.ins x.1 x.2 B
def preFreeze (E:Env):List Oper→St→St→St
 | [],_,st=>st
 | o :: l,s,st =>
  let s1:=freezeOp E o s
  let s2:=match o.op with|.move x|.assign x=>s1.setT (o.dst.getD 0) (s1.get E.P o.type x)|_=>s1
  preFreeze E l s2 (retireAll ((s.B.map (·.1)).filter fun d=>(Obs.get s1.B d).isNone) st)
def stpEq:Stp→Stp→Bool
 | .fld i,.fld j=>i==j
 | .idx a,.idx b=>decide (a=b)
 | .el a,.el b=>decide (a=b)
 | _,_=>false
def stpsEq:List Stp→List Stp→Bool
 | [],[]=>true
 | a :: l,b :: m=>stpEq a b&&stpsEq l m
 | _,_=>false
def svEq:SV→SV→Bool
 | .int k a,.int l b=>k==l&&decide (a=b)
 | .bool a,.bool b=>a==b
 | .val t p,.val u q=>t==u&&PV.beq p q
 | .hval t p,.hval u q=>t==u&&PV.beq p q
 | .fro t p,.fro u q=>t==u&&PV.beq p q
 | .own t d,.own u e=>t==u&&d==e
 | .ptr d q,.ptr e r=>d==e&&stpsEq q r
 | .hptr t i q,.hptr u j r=>t==u&&(i==j&&stpsEq q r)
 | .nils,.nils=>true
 | _,_=>false
def reEv (E:Env)(ops:Array Oper):List Nat→(St→Option Out)→St→Option Out
 | [],K,st=>K st
 | j :: X,K,st=>match ops[j]? with
  | some o=>opQ E o st fun v os=>bif os.isEmpty&&svEq v (st.T.getD (o.dst.getD 0) .dead) then reEv E ops X K st else none
  | none=>none
def execY (E:Env)(ops:Array Oper)(bf:Array Nat)(X:List Nat):List Nat→(St→Option Out)→St→Option Out
 | [],K,st=>K st
 | y :: Y,K,st=>match ops[y]? with
  | some o=>opX E o st fun st=>reEv E ops (X.filter fun x=>!(bf.getD y 0).testBit x) (execY E ops bf X Y K) st
  | none=>none
def execP (E:Env)(ops:Array Oper)(K:St→Option Out)(st:St):Option Out :=
 reEv E ops (xIx ops) (execY E ops (Region.before ops) (xIx ops) (y1Ix ops) (execOps E ops ((y2Ix ops).filterMap fun k=>ops[k]?) K)) st
def execT (E:Env)(ops:Array Oper)(L:List Oper)(K:St→Option Out)(st:St):Option Out :=
 bif anyReg ops then execP E ops K st else execOps E ops L K st
def faOk (E:Env)(ops:Array Oper):Bool :=
 ops.toList.all fun o=>match o.op with
  | .fieldAddr t _ f=>(match E.P.underlying t with|some (.struct fs)=>(match fs[f]? with|some fd=>decide (fd.type < E.P.types.size)&&!decide (E.P.cellsOf fd.type=0)|none=>false)|_=>false)
  | _=>true
def execD (E:Env)(ops:Array Oper)(K:St→Option Out)(st:St):Option Out :=
 bif !faOk E ops then none else
 execOps E ops (ops.toList.take (nHead ops)) (fun st =>
  let A:=ops.toList.filter fun o=>!skipOp ops o
  let st0:=retireAll (A.filterMap fun o=>bif laysOp o then o.dst else none) (preFreeze E A st st)
  let L:=linT ops
  execA E ops A (fun st os=>bif linClean L st0.T st.T st.B os then execT E ops (ops.toList.filter fun o=>tailOp ops o&&!headOp ops o) K { T:=killL L st.T,B:=(os.filter fun x=>x.1==HL || !L.contains x.1).foldr pushA st.B } else none) st0 []) st

inductive Xt where
 | normal|exit (id:Nat)|ret

abbrev Kont:=Xt→St→Option Out

def loopN (body:Kont→St→Option Out)(K:Kont):Nat→St→Option Out
 | 0,_=>none
 | k+1,st=>body (fun e st=>match e with|.normal=>loopN body K k st|e=>K e st) st

def thenK (next:St→Option Out)(K:Kont):Kont
 | .normal,st=>next st
 | e,st=>K e st
def blockK (id:Nat)(K:Kont):Kont
 | .exit i,st=>bif i==id then K .normal st else K (.exit i) st
 | e,st=>K e st

def headOf:Code→Nat
 | .region id _ _=>id
 | .seq a _=>headOf a
 | .cond _ a _=>headOf a
 | .block _ c=>headOf c
 | .loop c=>headOf c
 | .scope c=>headOf c
 | _=>0
mutual
def SV.labs:SV→List Nat
 | .own _ d=>[d]
 | .mp _ d=>[d]
 | .ptr d _=>[d]
 | .agg _ l=>SV.labss l
 | .fn _ l=>SV.labss l
 | .tup l=>SV.labss l
 | _=>[]
def SV.labss:List SV→List Nat
 | []=>[]
 | s :: l=>SV.labs s++SV.labss l
end
def Ob.labs:Ob→List Nat
 | .box _ s=>s.labs
 | .row _ _=>[]
 | _=>[]
def reach (B:Obs):Nat→List Nat→List Nat
 | 0,L=>L
 | n+1,L=>reach B n (L++B.flatMap fun x=>bif L.contains x.1 then x.2.labs else [])
def St.purge (E:Env)(c:Code)(st:St):St :=
 match E.mask (3 * headOf c) with
 | none=>st
 | some l =>
  let T:=maskT l 0 st.T
  let L:=reach st.B st.B.length (SV.labss T)
  retireAll ((st.B.map (·.1)).filter fun d=>d.blt lowB&&!L.contains d) { st with T:=T }
def purgeK (E:Env)(c:Code)(K:Kont):Kont
 | .normal,st=>K .normal (st.purge E c)
 | e,st=>K e st

def exec (E:Env):Code→Kont→St→Option Out
 | .skip,K,st=>K .normal st
 | .region _ ops draw,K,st=>bif draw then execD E ops (K .normal) st else execOps E ops ops.toList (K .normal) st
 | .seq a b,K,st=>exec E a (thenK (fun st=>exec E b K (st.msk E (3 * headOf b+1))) K) st
 | .cond c a b,K,st=>(match st.get E.P 0 c with
  | .bool t=>bif t then exec E a K (st.learn c true) else exec E b K (st.learn c false)
  | _=>none)
 | .block id c,K,st=>exec E c (blockK id K) st
 | .loop c,K,st=>loopN (fun K st=>exec E c (purgeK E c K) st) K E.fuel (st.purge E c)
 | .exit id,K,st=>K (.exit id) st
 | .scope c,K,st=>exec E c K st
 | .ret,K,st=>K .ret st
 | _,_,_=>none

def boxPV (P:Program)(u:TypeId):SV→Option PV
 | .agg u' l=>bif u'==u then (plainsF P (fieldsOf P u) l).map .agg else none
 | s=>s.pvT P u
def outS (P:Program)(B:Obs)(keep:List Nat)(t:TypeId):SV→Option SV
 | .ptr d q=>bif keep.contains d then some (.ptr d q) else
   (match q,Obs.get B d,P.underlying t with
   | [],some (.box u s),some (.pointer e)=>bif u==e then (boxPV P u s).map fun p=>.val t (.ref p) else none
   | _,_,_=>none)
 | .own u d=>bif keep.contains d then some (.own u d) else none
 | .hval u p=>bif keep.contains HL then some (.hval u p) else none
 | .hptr e i q=>bif keep.contains HL then hpOut P t (.hptr e i q) else none
 | .nilp=>bif keep.contains HL&&refT P t then (match P.underlying t with|some (.pointer _)=>some (.hval t .nil)|_=>none) else ((SV.nilp).pvT P t).map (ofPV P t)
 | .agg u l=>(boxPV P t (.agg u l)).map (ofPV P t)
 | s=>(s.pvT P t).map (ofPV P t)
def outAll (P:Program)(B:Obs)(keep:List Nat):List TypeId→List SV→Option (List SV)
 | [],[]=>some []
 | t :: ts,s :: l=>match outS P B keep t s,outAll P B keep ts l with|some a,some r=>some (a :: r)|_,_=>none
 | _,_=>none
def cellS (E:Env)(st:St)(t:TypeId):SV→SV
 | .ptr e q=>(match Obs.get st.B e with|some ob=>bif (ob.typAt E.P q==some t)&&(E.P.underlying t).isSome then ob.getAt E.P t q else .dead|none=>.dead)
 | _=>.dead
def readRes (E:Env)(st:St):ResultVar→SV
 | .tmp i=>st.T.getD i .dead
 | .cell a t=>cellS E st t (st.T.getD a .dead)
def SV.isDead:SV→Bool
 | .dead=>true
 | _=>false
mutual
def SV.hasHp:SV→Bool
 | .hval _ _=>true
 | .hptr _ _ _=>true
 | .hsub _ _ _ _=>true
 | .agg _ l=>SV.hasHps l
 | .fn _ l=>SV.hasHps l
 | .tup l=>SV.hasHps l
 | _=>false
def SV.hasHps:List SV→Bool
 | []=>false
 | s :: l=>SV.hasHp s || SV.hasHps l
end
def Ob.noH:Ob→Ob
 | .box t s=>bif s.hasHp then .box t .dead else .box t s
 | .hvar t _=>.box t .dead
 | .hrow e _=>.row e []
 | o=>o
def Obs.noH:Obs→Obs
 | []=>[]
 | (k,o) :: l=>(k,o.noH) :: Obs.noH l
def dropH (keep:List Nat)(B:Obs):Obs:=bif keep.contains HL || !Obs.hasH B then B else Obs.noH (Obs.del HL B)
def finish (E:Env)(fn:Func)(B0:Obs)(st:St):Option Out :=
 let rs:=fn.results.toList.map (readRes E st)
 bif rs.any SV.isDead then none else
 let keep:=(bif E.ownRet then (match rs with|[.own _ d]=>[d]|_=>[]) else [])++B0.map (·.1)
 let st1:=retireAll ((st.B.filter fun x=>x.2.isRow&&!keep.contains x.1).map (·.1)) { T:=rs,B:=st.B }
 (outAll E.P st1.B keep fn.resultTypes.toList st1.T).map fun l=>(l,dropH keep (retireAll ((st1.B.map (·.1)).filter fun n=>!keep.contains n) { T:=[],B:=st1.B }).B)

def startH (E:Env)(B:Obs):Obs:=bif E.hpNew&&(Obs.get0 B HL).isNone then B++[(HL,.hp [])] else B
def run1 (E:Env)(f:FuncId)(args:List SV)(B:Obs):Option Out :=
 match E.P.funcs[f]? with
 | none=>none
 | some fn=>match fn.body with
  | none=>none
  | some c =>
   exec E c (fun e st=>match e with|.exit _=>none|_=>finish E fn B st) { T:=args++List.replicate (fn.ntmps - args.length) .undef,B:=startH E B }

structure Cfg where
 nilOwn:FuncId→Nat→Bool:=fun _ _=>false
 fldOwn:FuncId→Nat→Nat→Bool:=fun _ _ _=>false
 ownPar:FuncId→Nat→Bool:=fun _ _=>false
 ownRet:FuncId→Bool:=fun _=>false
 hpD:FuncId→Nat→Bool:=fun _ _=>false
 hpF:FuncId→Bool:=fun _=>false
 hpNew:FuncId→Bool:=fun _=>false
 mask:FuncId→Nat→Option (List Nat):=fun _ _=>none
 ext:FuncId→Option (List SV→Obs→Option Out):=fun _=>none
 okF:FuncId→Bool:=fun _=>true

def ev (P:Program)(c:Cfg):Nat→FuncId→List SV→Obs→Option Out
 | 0,_,_,_=>none
 | k+1,f,args,B=>match c.ext f with
  | some s=>s args B
  | none=>bif c.okF f then run1 { P,nilOwn:=c.nilOwn f,fldOwn:=c.fldOwn f,ownPar:=c.ownPar,ownRet:=c.ownRet f,hpD:=c.hpD f,hpF:=c.hpF,hpNew:=c.hpNew f,mask:=c.mask f,fuel:=k,C:=fun f l B K=>(ev P c k f l B).bind K } f args B else none

end Go.X
