/- The interpreter X: texts 42 to 42; no statement of the seat is proved here. -/
import Derived.Test.YtmdlhnojpcnnbaaXK
namespace Go.X
open Go

abbrev R:=Option Out
abbrev Oracle:=FuncId→List SV→Obs→(Out→R)→R

def subC:Code→List Nat→Code
 | c,[]=>c
 | .seq a b,i :: p=>match i with|0=>subC a p|_=>subC b p
 | .cond _ a b,i :: p=>match i with|0=>subC a p|_=>subC b p
 | .block _ c,_ :: p=>subC c p
 | .loop c,_ :: p=>subC c p
 | .scope c,_ :: p=>subC c p
 | c,_=>c
def kont (E:Env):Code→List Nat→Kont→Kont
 | .seq a b,i :: p,K=>match i with|0=>kont E a p (thenK (fun st=>exec E b K (st.msk E (3 * headOf b+1))) K)|_=>kont E b p K
 | .cond _ a b,i :: p,K=>match i with|0=>kont E a p K|_=>kont E b p K
 | .block id c,_ :: p,K=>kont E c p (blockK id K)
 | .scope c,_ :: p,K=>kont E c p K
 | _,_,K=>K
def opsOf:Code→Array Oper
 | .region _ ops _=>ops
 | _=>#[]

def loopK (NX:St→R)(K:Kont):Kont
 | .normal,st=>NX st
 | e,st=>K e st
def loopM (E:Env)(c:Code)(K:Kont)(n:Nat)(st:St):R:=loopN (fun K st=>exec E c (purgeK E c K) st) K n st
class Frc (S:Type) where
 frc:S→(S→R)→R
 ok:∀ s k,frc s k=k s
def frcN:Nat→(Nat→R)→R
 | 0,k=>k 0
 | n+1,k=>k (n+1)
theorem frcN_ok (n:Nat)(k:Nat→R):frcN n k=k n:=by cases n <;> rfl
def frcI:Int→(Int→R)→R
 | .ofNat n,k=>frcN n fun n=>k (.ofNat n)
 | .negSucc n,k=>frcN n fun n=>k (.negSucc n)
theorem frcI_ok (n:Int)(k:Int→R):frcI n k=k n:=by cases n <;> exact frcN_ok _ _
def frcB:Bool→(Bool→R)→R
 | true,k=>k true
 | false,k=>k false
theorem frcB_ok (b:Bool)(k:Bool→R):frcB b k=k b:=by cases b <;> rfl
def frcLI:List Int→(List Int→R)→R
 | [],k=>k []
 | a :: l,k=>frcI a fun a=>frcLI l fun l=>k (a :: l)
theorem frcLI_ok:∀ (l:List Int)(k:List Int→R),frcLI l k=k l
 | [],_=>rfl
 | a :: l,k=>by rw [frcLI,frcI_ok,frcLI_ok l]
mutual
def PV.frc:PV→(PV→R)→R
 | .int n,k=>frcI n fun n=>k (.int n)
 | .bool b,k=>frcB b fun b=>k (.bool b)
 | .str s,k=>frcLI s fun s=>k (.str s)
 | .flt n,k=>frcN n fun n=>k (.flt n)
 | .agg l,k=>PV.frcs l fun l=>k (.agg l)
 | .list l,k=>PV.frcs l fun l=>k (.list l)
 | .nil,k=>k .nil
 | .ref p,k=>PV.frc p fun p=>k (.ref p)
 | .rp i,k=>frcN i fun i=>k (.rp i)
 | .rs i n,k=>frcN i fun i=>frcN n fun n=>k (.rs i n)
def PV.frcs:List PV→(List PV→R)→R
 | [],k=>k []
 | p :: l,k=>PV.frc p fun p=>PV.frcs l fun l=>k (p :: l)
end
mutual
theorem PV.frc_ok:∀ (p:PV)(k:PV→R),PV.frc p k=k p
 | .int n,k=>by rw [PV.frc,frcI_ok]
 | .bool b,k=>by rw [PV.frc,frcB_ok]
 | .str s,k=>by rw [PV.frc,frcLI_ok]
 | .flt n,k=>by rw [PV.frc,frcN_ok]
 | .agg l,k=>by rw [PV.frc,PV.frcs_ok l]
 | .list l,k=>by rw [PV.frc,PV.frcs_ok l]
 | .nil,k=>by rw [PV.frc]
 | .ref p,k=>by rw [PV.frc,PV.frc_ok p]
 | .rp i,k=>by rw [PV.frc,frcN_ok]
 | .rs i n,k=>by rw [PV.frc,frcN_ok,frcN_ok]
theorem PV.frcs_ok:∀ (l:List PV)(k:List PV→R),PV.frcs l k=k l
 | [],k=>by rw [PV.frcs]
 | p :: l,k=>by rw [PV.frcs,PV.frc_ok p,PV.frcs_ok l]
end
def HE.frc:HE→(HE→R)→R
 | .gone,k=>k .gone
 | .var t p,k=>frcN t fun t=>PV.frc p fun p=>k (.var t p)
 | .row e l,k=>frcN e fun e=>PV.frcs l fun l=>k (.row e l)
theorem HE.frc_ok (h:HE)(k:HE→R):HE.frc h k=k h:=by
 cases h with
 | gone=>rfl
 | var t p=>simp only [HE.frc,frcN_ok,PV.frc_ok]
 | row e l=>simp only [HE.frc,frcN_ok,PV.frcs_ok]
def frcH:List HE→(List HE→R)→R
 | [],k=>k []
 | a :: l,k=>HE.frc a fun a=>frcH l fun l=>k (a :: l)
theorem frcH_ok:∀ (l:List HE)(k:List HE→R),frcH l k=k l
 | [],_=>rfl
 | a :: l,k=>by rw [frcH,HE.frc_ok,frcH_ok l]
instance:Frc (List HE):=⟨frcH,frcH_ok⟩
instance:Frc Unit:=⟨fun s k=>k s,fun _ _=>rfl⟩
instance:Frc Nat:=⟨frcN,frcN_ok⟩
instance:Frc Int:=⟨frcI,frcI_ok⟩
instance:Frc Bool:=⟨frcB,frcB_ok⟩
instance:Frc (List Int):=⟨frcLI,frcLI_ok⟩
instance:Frc PV:=⟨PV.frc,PV.frc_ok⟩
instance:Frc (List PV):=⟨PV.frcs,PV.frcs_ok⟩
instance {A B:Type} [Frc A] [Frc B]:Frc (A × B):=⟨fun s k=>Frc.frc s.1 fun a=>Frc.frc s.2 fun b=>k (a,b),fun s k=>by rw [Frc.ok,Frc.ok]⟩
instance {A B:Type} [Frc A] [Frc B]:Frc (Sum A B):=⟨fun s k=>match s with|.inl a=>Frc.frc a fun a=>k (.inl a)|.inr b=>Frc.frc b fun b=>k (.inr b),fun s k=>by cases s <;> simp only [Frc.ok]⟩

def loopR {S:Type} [Frc S](body:(S→R)→S→R):Nat→S→R
 | 0,_=>none
 | n+1,s=>Frc.frc s (body (loopR body n))

theorem loop_sim {E:Env}{c:Code}{K:Kont}{S:Type} [Frc S](enc:S→St)(body:(S→R)→S→R)
  (h:∀ (NX:St→R)(s:S),exec E c (purgeK E c (loopK NX K)) (enc s)=body (fun s=>NX (enc s)) s):∀ (n:Nat)(s:S),loopM E c K n (enc s)=loopR body n s
 | 0,_=>rfl
 | n+1,s=>by
  have ih:(fun s=>loopM E c K n (enc s))=loopR body n:=funext fun s=>loop_sim enc body h n s
  unfold loopR
  rw [Frc.ok,←ih,←h (loopM E c K n) s]
  unfold loopM
  rw [loopN]
  congr 2
  funext e st
  cases e <;> rfl

def finishL (E:Env)(fn:Func)(ls:List Nat)(st:St):Option Out :=
 let rs:=fn.results.toList.map (readRes E st)
 bif rs.any SV.isDead then none else
 let keep:=(bif E.ownRet then (match rs with|[.own _ d]=>[d]|_=>[]) else [])++ls
 let st1:=retireAll ((st.B.filter fun x=>x.2.isRow&&!keep.contains x.1).map (·.1)) { T:=rs,B:=st.B }
 (outAll E.P st1.B keep fn.resultTypes.toList st1.T).map fun l=>(l,dropH keep (retireAll ((st1.B.map (·.1)).filter fun n=>!keep.contains n) { T:=[],B:=st1.B }).B)
def endK {Y:Type}(E:Env)(fn:Func)(ls:List Nat)(un:Out→Option Y)(ret:Y→R):Kont
 | .exit _,_=>none
 | _,st=>(finishL E fn ls st).bind fun o=>(un o).bind ret
def opPoint (E:Env)(ops:Array Oper)(K:St→R)(st:St):List Oper→R
 | []=>none
 | o :: rest=>opX E o st (execOps E ops rest K)

structure Snd (P:Program)(f:FuncId){X Y:Type}(inp:X→List SV × Obs)(out:Y→Out)(c:X→(Y→R)→R):Prop where
 ok:∀ x r,c x (fun y=>some (out y))=some r→CallOk P f (inp x).1 (inp x).2 r
 calls:∀ x r,c x (fun y=>some (out y))=some r→∀ (Mo:Nat→Prop) (β:Beta)(vs:List Value)(w:World),Rel P Mo β (inp x).1 (inp x).2 vs w→Calls P f vs.toArray w (EndsIn P w Mo β (inp x).2 r)
 par:∀ x (K:Out→R),c x (fun y=>K (out y))=(c x fun y=>some (out y)).bind K

structure SndO (P:Program)(f:FuncId){X Y:Type}(inp:X→List SV × Obs)(out:Y→Out)(c:X→(Y→R)→R):Prop where
 ok:∀ x r,c x (fun y=>some (out y))=some r→CallOk P f (inp x).1 (inp x).2 r
 par:∀ x (K:Out→R),c x (fun y=>K (out y))=(c x fun y=>some (out y)).bind K
theorem Snd.o {P:Program}{f:FuncId}{X Y:Type}{inp:X→List SV × Obs}{out:Y→Out}{c:X→(Y→R)→R}(h:Snd P f inp out c):SndO P f inp out c:=⟨h.ok,h.par⟩
theorem SndO.o {P:Program}{f:FuncId}{X Y:Type}{inp:X→List SV × Obs}{out:Y→Out}{c:X→(Y→R)→R}(h:SndO P f inp out c):SndO P f inp out c:=h

theorem snd_none {P:Program}{f:FuncId}{X Y:Type}{inp:X→List SV × Obs}{out:Y→Out}:Snd P f inp out (fun _ _=>none):=⟨fun _ _ h=>(by cases h),fun _ _ h=>(by cases h),fun _ _=>rfl⟩

def orc0:Oracle:=fun _ _ _ _=>none
def orc {X Y:Type}(f:FuncId)(dec:List SV→Obs→Option X)(out:Y→Out)(c:X→(Y→R)→R)(rest:Oracle):Oracle:=fun g args B K =>
 bif g==f then (match dec args B with|some x=>c x (fun y=>K (out y))|none=>rest g args B K) else rest g args B K

theorem orc0_ok {P:Program}:OracleOk P orc0:=⟨fun _ _ _ _ h=>(by cases h),fun _ _ _ _=>rfl⟩
theorem orc_ok {P:Program}{f:FuncId}{X Y:Type}{inp:X→List SV × Obs}{dec:List SV→Obs→Option X}{out:Y→Out}{c:X→(Y→R)→R}{rest:Oracle}
  (hs:SndO P f inp out c)(hd:∀ args B x,dec args B=some x→inp x=(args,B))(hr:OracleOk P rest):OracleOk P (orc f dec out c rest):=by
 refine ⟨fun g args B r h=>?_,fun g args B K=>?_⟩
 ·unfold orc at h
  cases hg:g==f with
  | false=>rw [hg,cond_false] at h;exact hr.ok _ args B r h
  | true =>
   rw [hg,cond_true] at h
   have:f=g:=by simpa using (beq_iff_eq.1 hg).symm
   subst this
   cases hx:dec args B with
   | none=>rw [hx] at h;exact hr.ok _ args B r h
   | some x =>
    rw [hx] at h
    have e:=hd _ _ _ hx
    have:=hs.ok x r h
    rw [e] at this
    exact this
 ·unfold orc
  cases hg:g==f with
  | false=>simp only [cond_false];exact hr.par g args B K
  | true =>
   simp only [cond_true]
   cases hx:dec args B with
   | none=>exact hr.par g args B K
   | some x=>exact hs.par x K

theorem snd_step {P:Program}{E:Env}(hE:E.P=P)(hL:laidOutB P=true)(hN:noNum P=true)(hC:OracleOk P E.C){f:FuncId}{fn:Func}{code:Code}(hf:P.funcs[f]?=some fn)(hb:fn.body=some code)(hD:DrawsOk E code)
  {X Y:Type}{inp:X→List SV × Obs}{out:Y→Out}{c:X→(Y→R)→R}(un:Out→Option Y)(hun:∀ o y,un o=some y→o=out y)(ls:List Nat)(hls:∀ x,(inp x).2.map (·.1)=ls)
  (heq:∀ x ret,exec E code (endK E fn ls un ret) { T:=(inp x).1++List.replicate (fn.ntmps - (inp x).1.length) .undef,B:=startH E (inp x).2 }=c x ret):Snd P f inp out c:=by
 have key:∀ x ret,c x ret=(run1 E f (inp x).1 (inp x).2).bind fun o=>(un o).bind ret:=by
  intro x ret
  rw [←heq x ret]
  unfold run1
  rw [show E.P.funcs[f]?=some fn by rw [hE];exact hf]
  simp only [hb]
  rw [←exec_bind E hC.par]
  congr 1
  funext e st
  rw [←hls x]
  cases e <;> rfl
 have ends:∀ x r,c x (fun y=>some (out y))=some r→run1 E f (inp x).1 (inp x).2=some r:=by
  intro x r h
  rw [key] at h
  cases hr:run1 E f (inp x).1 (inp x).2 with
  | none=>rw [hr] at h;cases h
  | some o =>
   rw [hr] at h
   simp only [Option.bind_some] at h
   cases hy:un o with
   | none=>rw [hy] at h;cases h
   | some y =>
    rw [hy] at h
    simp only [Option.bind_some,Option.some.injEq] at h
    have:=hun o y hy
    rw [this,h]
 have hD':∀ fn c,P.funcs[f]?=some fn→fn.body=some c→DrawsOk E c:=fun fn' c' hf' hb'=>by
  rw [hf] at hf';injection hf' with hf';subst hf'
  rw [hb] at hb';injection hb' with hb';subst hb'
  exact hD
 refine ⟨fun x r h=>callOk_run hE hL hN hC hD' (ends x r h),fun x r h Mo β vs w hR=>?_,fun x K=>?_⟩
 ·subst hE
  obtain ⟨_,_,_,_,hc⟩:=run1_sound hL hC hD' (ends x r h)
  exact hc Mo β vs w hR
 ·rw [key,key]
  cases run1 E f (inp x).1 (inp x).2 with
  | none=>rfl
  | some o =>
   simp only [Option.bind_some]
   cases hy:un o with
   | none=>rfl
   | some y=>rfl

end Go.X
