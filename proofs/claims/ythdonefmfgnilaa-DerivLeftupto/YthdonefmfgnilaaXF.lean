/- The interpreter X: texts 35 to 41; no statement of the seat is proved here. -/
import Derived.Test.YthdonefmfgnilaaXE
import Derived.Orders
import Derived.ProofKit
/- The interpreter X, part 35: what an operation hangs on. -/
namespace Go.X
open Go

def pairK (s:SV)(os:Obs):Option Out:=some ([s],os)
def unpair (K:SV→Obs→Option Out):Out→Option Out
 | ([s],os)=>K s os
 | _=>none

theorem binI_param (op:BinOp)(k:IntKind)(a b:Int)(K:SV→Obs→Option Out):binI op k a b (fun s=>K s [])=(binI op k a b (fun s=>pairK s [])).bind (unpair K):=by
 cases op <;> simp only [binI,Bool.cond_eq_ite] <;> (try split) <;> rfl
theorem binSt_param (op:BinOp)(a b:List Int)(K:SV→Obs→Option Out):binSt op a b (fun s=>K s [])=(binSt op a b (fun s=>pairK s [])).bind (unpair K):=by
 cases op <;> simp only [binSt,Bool.cond_eq_ite] <;> (try split) <;> rfl
theorem nilX_param (P:Program)(op:BinOp)(x:SV)(K:SV→Obs→Option Out):nilX P op x (fun s=>K s [])=(nilX P op x (fun s=>pairK s [])).bind (unpair K):=by
 unfold nilX
 repeat' split
 all_goals rfl
theorem binX_param (P:Program)(op:BinOp)(t:TypeId)(x y:SV)(K:SV→Obs→Option Out):binX P op t x y (fun s=>K s [])=(binX P op t x y (fun s=>pairK s [])).bind (unpair K):=by
 unfold binX
 simp only [Bool.cond_eq_ite]
 repeat' split
 all_goals first
  | rfl
  | exact binI_param _ _ _ _ _
  | exact binSt_param _ _ _ _
  | exact nilX_param _ _ _ _
theorem bounds_param (lo hi:Option Int)(len:Nat)(g:Nat→Nat→SV)(K:SV→Obs→Option Out):bounds lo hi len (fun a b=>K (g a b) [])=(bounds lo hi len (fun a b=>pairK (g a b) [])).bind (unpair K):=by
 unfold bounds
 simp only [Bool.cond_eq_ite]
 split <;> rfl
theorem Par.bind {C:FuncId→List SV→Obs→(Out→Option Out)→Option Out}(hp:Par C){f:FuncId}{l:List SV}{B:Obs}{K1 K2 g:Out→Option Out}(h:∀ r,K1 r=(K2 r).bind g):C f l B K1=(C f l B K2).bind g:=by
 rw [hp f l B K1,hp f l B K2]
 cases C f l B some with
 | none=>rfl
 | some r=>exact h r
theorem callQ_param (E:Env)(hp:Par E.C)(st:St)(f:FuncId)(args:List SV)(K:SV→Obs→Option Out):callQ E st f args K=(callQ E st f args pairK).bind (unpair K):=by
 unfold callQ
 simp only [Bool.cond_eq_ite]
 split
 ·rfl
 ·split
  ·rfl
  ·refine Par.bind hp fun r=>?_
   split <;> rfl

theorem opQ0_param (E : Env) (hp : Par E.C) (o : Oper) (st : St) (K : SV → Obs → Option Out) : opQ0 E o st K = (opQ0 E o st pairK).bind (unpair K) := by
  unfold opQ0
  simp only [Bool.cond_eq_ite]
  split
  all_goals first
    | exact binX_param _ _ _ _ _ _
    | exact callQ_param _ hp _ _ _ _
    | (repeat' split
       all_goals first
         | rfl
         | exact bounds_param _ _ _ _ _)
theorem opH_param (E : Env) (o : Oper) (st : St) (K : SV → Obs → Option Out) : opH E o st K = (opH E o st pairK).bind (unpair K) := by
  unfold opH
  simp only [Bool.cond_eq_ite]
  split
  all_goals
    (repeat' split
     all_goals rfl)
theorem opQ_param (E:Env)(hp:Par E.C)(o:Oper)(st:St)(K:SV→Obs→Option Out):opQ E o st K=(opQ E o st pairK).bind (unpair K):=by
 unfold opQ
 cases hpOp E o with
 | false=>exact opQ0_param E hp o st K
 | true =>
  cases Obs.hasH st.B with
  | false=>rfl
  | true=>exact opH_param E o st K

section
variable {E : Env} {st st' : St}

theorem elems_mono (hB:∀ d x,d≠HL→Obs.get st.B d=some x→Obs.get st'.B d=some x){P:Program}{e:TypeId}{s:SV}{l:List PV}(h:st.elems P e s=some l):st'.elems P e s=some l:=by
 unfold St.elems at h ⊢
 cases s with
 | own u d =>
  simp only at h ⊢
  cases hg:Obs.get st.B d with
  | none=>rw [hg] at h;cases h
  | some x =>
   rw [hB d x (fun hd=>by subst hd;obtain ⟨l,rfl,_⟩:=Obs.hp_of hg;rw [hg] at h;cases h) hg]
   rw [hg] at h;exact h
 | _=>exact h

theorem pass_mono (hB:∀ d x,d≠HL→Obs.get st.B d=some x→Obs.get st'.B d=some x){P:Program}{b:Bool}{t:TypeId}{s s':SV}(h:s.pass P st b t=some s'):s.pass P st' b t=some s':=by
 unfold SV.pass at h ⊢
 cases s with
 | own u d =>
  simp only at h ⊢
  obtain ⟨h1,h⟩:=cond_some h
  rw [h1,cond_true]
  cases hu:P.underlying t with
  | none=>rw [hu] at h;cases h
  | some dd =>
   rw [hu] at h
   cases dd with
   | slice e =>
    simp only at h ⊢
    cases hl:st.elems P e (.own u d) with
    | none=>rw [hl] at h;cases h
    | some l=>rw [elems_mono hB hl];rw [hl] at h;exact h
   | _=>cases h
 | _=>exact h
theorem passAll_mono (hB:∀ d x,d≠HL→Obs.get st.B d=some x→Obs.get st'.B d=some x){P:Program}{b:Bool}:∀ {ts:List TypeId}{l r:List SV},passAll P st b ts l=some r→passAll P st' b ts l=some r
 | [],[],r,h=>h
 | [],_ :: _,_,h=>by simp [passAll] at h
 | _ :: _,[],_,h=>by simp [passAll] at h
 | t :: ts,s :: l,r,h=>by
  unfold passAll at h ⊢
  cases h1:s.pass P st b t with
  | none=>rw [h1] at h;cases h
  | some x =>
   cases h2:passAll P st b ts l with
   | none=>rw [h1,h2] at h;cases h
   | some y=>rw [pass_mono hB h1,passAll_mono hB h2];rw [h1,h2] at h;exact h

/-- Does it lay something into a heap? -/
def _root_.Go.Op.makes:Op→Bool
 | .alloc _|.box _ _|.buildSlice _ _ _|.makeSlice _ _ _=>true
 | _=>false
theorem hgetElem_mono {H l:List HE}{i:Nat}{y:HE}(h:H[i]?=some y):(H++l)[i]?=some y:=by
 rw [List.getElem?_append_left (get_lt h)];exact h
theorem hok_mono {H l:List HE}{e:TypeId}{i:Nat}{q:List Stp}(h:hok H e i q=true):hok (H++l) e i q=true∧hget (H++l) i q=hget H i q:=by
 cases hel:isEl q with
 | false =>
  obtain ⟨n1,n2,_,_,_⟩:=notEl (P:=default) hel
  rw [n1] at h ⊢
  obtain ⟨p,k1,k2⟩:=hokV_spec h
  have k3:=hgetElem_mono (l:=l) k1
  rw [n2,n2]
  refine ⟨?_,?_⟩
  ·unfold hokV;rw [k3];simp
  ·unfold hvarOf;rw [k1,k3]
 | true =>
  obtain ⟨n,q',rfl⟩:=isEl_true hel
  obtain ⟨r,k1,k2,k3,k4⟩:=hokR_spec (show hokR H e i n=true from h)
  have k5:=hgetElem_mono (l:=l) k1
  refine ⟨?_,?_⟩
  ·show hokR (H++l) e i n=true
   unfold hokR;rw [k5];simp [k3,k4]
  ·show ((hrowOf (H++l) i).getD n.toNat .nil).get q'=((hrowOf H i).getD n.toNat .nil).get q'
   unfold hrowOf;rw [k1,k5]

theorem opQ0_congr (hB:∀ d x,d≠HL→Obs.get st.B d=some x→Obs.get st'.B d=some x)(hH:∃ l,Obs.hps st'.B=Obs.hps st.B++l){o:Oper}(hg:∀ x ∈ o.op.operands,∀ P t,st.get P t x=st'.get P t x){r:Out}(h:opQ0 E o st pairK=some r):opQ0 E o st' pairK=some r:=by
 cases hop:o.op with
 | load t x =>
  have e:=hg x (by rw [hop];simp [Op.operands])
  unfold opQ0 at h ⊢
  rw [hop] at h ⊢
  simp only at h ⊢
  rw [e] at h
  generalize st'.get E.P o.type x=s at h ⊢
  cases s with
  | ptr d q =>
   simp only at h ⊢
   cases hh:Obs.get st.B d with
   | none=>rw [hh] at h;cases h
   | some x =>
    rw [hB d x (fun hd=>by subst hd;obtain ⟨l,rfl,_⟩:=Obs.hp_of hh;rw [hh] at h;cases h) hh]
    rw [hh] at h;exact h
  | hptr e' i q =>
   simp only at h ⊢
   obtain ⟨h1,h⟩:=cond_some h
   simp only [Bool.and_eq_true] at h1
   obtain ⟨l,hl⟩:=hH
   obtain ⟨m1,m2⟩:=hok_mono (l:=l) h1.2
   rw [hl,m1,m2,h1.1.1,h1.1.2]
   exact h
  | _=>exact h
 | fieldAddr t x f =>
  have e:=hg x (by rw [hop];simp [Op.operands])
  unfold opQ0 at h ⊢
  rw [hop] at h ⊢
  simp only at h ⊢
  rw [e] at h
  generalize st'.get E.P o.type x=s at h ⊢
  cases s with
  | ptr d q =>
   revert h
   split
   ·split
    ·intro h
     obtain ⟨h1,h⟩:=cond_none h
     rw [h1,cond_false]
     simp only at h ⊢
     cases hh:Obs.get st.B d with
     | none=>rw [hh] at h;cases h
     | some x =>
      rw [hB d x (fun hd=>by subst hd;obtain ⟨l,rfl,_⟩:=Obs.hp_of hh;rw [hh] at h;cases h) hh]
      rw [hh] at h;exact h
    ·exact id
   ·exact id
  | _=>exact h
 | indexAddr t x i =>
  have e:=hg x (by rw [hop];simp [Op.operands])
  have e2:=hg i (by rw [hop];simp [Op.operands])
  unfold opQ0 at h ⊢
  rw [hop] at h ⊢
  simp only at h ⊢
  rw [e,e2] at h
  generalize st'.get E.P o.type x=s at h ⊢
  revert h
  split
  ·intro h
   obtain ⟨h1,h⟩:=cond_some h
   rw [h1,cond_true]
   cases s with
   | ptr d q =>
    simp only at h ⊢
    cases hh:Obs.get st.B d with
    | none=>rw [hh] at h;cases h
    | some x =>
     rw [hB d x (fun hd=>by subst hd;obtain ⟨l,rfl,_⟩:=Obs.hp_of hh;rw [hh] at h;cases h) hh]
     rw [hh] at h;exact h
   | _=>exact h
  ·intro h
   rename_i u _ _ _ _ _
   cases s with
   | own u' d =>
    simp only at h ⊢
    cases hh:Obs.get st.B d with
    | none=>rw [hh] at h;cases h
    | some x =>
     rw [hB d x (fun hd=>by subst hd;obtain ⟨l,rfl,_⟩:=Obs.hp_of hh;rw [hh] at h;cases h) hh]
     rw [hh] at h;exact h
   | _=>exact h
  ·exact id
 | convert s t x =>
  have e:=hg x (by rw [hop];simp [Op.operands])
  unfold opQ0 at h ⊢
  rw [hop] at h ⊢
  simp only at h ⊢
  rw [e] at h
  generalize st'.get E.P o.type x=sv at h ⊢
  split at h
  ·exact h
  ·exact h
  ·exact h
  ·rename_i sv2 _ _ _ e' hs ht
   cases hl:st.elems E.P e' sv2 with
   | none =>
    rw [hl] at h
    split at h <;> first
     | (cases h;done)
     | (rename_i h9;cases h9)
     | (rename_i h9 _;cases h9)
   | some l =>
    rw [elems_mono hB hl]
    rw [hl] at h;exact h
  ·cases h
 | call c =>
  obtain ⟨callee,args,ts⟩:=c
  have hargs:∀ t,args.toList.map (st.get E.P t)=args.toList.map (st'.get E.P t):=by
   intro t
   apply List.map_congr_left
   intro x hx
   exact hg x (by rw [hop];simp only [Op.operands,Call.operands];exact Array.mem_append_right _ (by simpa using hx)) _ _
  cases callee with
  | builtin b =>
   cases b with
   | len =>
    unfold opQ0 at h ⊢
    rw [hop] at h ⊢
    simp only at h ⊢
    rw [hargs] at h
    split at h
    ·split at h
     ·exact h
     ·exact h
     ·rename_i hx
      revert h
      generalize hsv:st.elems E.P _ _=y
      cases y with
      | none=>intro h;cases h
      | some l=>intro h;rw [elems_mono hB hsv];exact h
     ·cases h
    ·cases h
   | min =>
    unfold opQ0 at h ⊢
    rw [hop] at h ⊢
    simp only at h ⊢
    rw [hargs] at h
    exact h
   | max =>
    unfold opQ0 at h ⊢
    rw [hop] at h ⊢
    simp only at h ⊢
    rw [hargs] at h
    exact h
   | _=>unfold opQ0 at h;rw [hop] at h;cases h
  | value x =>
   cases x with
   | func f =>
    unfold opQ0 at h ⊢
    rw [hop] at h ⊢
    simp only at h ⊢
    rw [hargs] at h
    unfold callQ at h ⊢
    cases hf:E.P.funcs[f]? with
    | none=>rw [hf] at h;cases h
    | some fn =>
     rw [hf] at h
     simp only at h ⊢
     cases hp:passAll E.P st (fn.resultTypes.toList.all (isScalar E.P)) fn.params.toList (args.toList.map (st'.get E.P o.type)) with
     | none=>rw [hp] at h;cases h
     | some l=>rw [passAll_mono hB hp];rw [hp] at h;exact h
   | _=>unfold opQ0 at h;rw [hop] at h;cases h
  | _=>unfold opQ0 at h;rw [hop] at h;cases h
 | slice t x lo hi mx =>
  cases mx with
  | some m=>unfold opQ0 at h;rw [hop] at h;cases h
  | none =>
   have e:=hg x (by rw [hop];simp [Op.operands])
   have el:∀ y,lo=some y→∀ P t,st.get P t y=st'.get P t y:=fun y hy=>hg y (by rw [hop];simp [Op.operands,hy])
   have eh:∀ y,hi=some y→∀ P t,st.get P t y=st'.get P t y:=fun y hy=>hg y (by rw [hop];simp [Op.operands,hy])
   have e1:optInt st E.P lo=optInt st' E.P lo:=by
    cases lo with
    | none=>rfl
    | some y=>simp only [optInt];rw [el y rfl]
   have e2:optInt st E.P hi=optInt st' E.P hi:=by
    cases hi with
    | none=>rfl
    | some y=>simp only [optInt];rw [eh y rfl]
   unfold opQ0 at h ⊢
   rw [hop] at h ⊢
   simp only at h ⊢
   rw [e,e1,e2] at h
   exact h
 | build t ps =>
  have e:∀ t,ps.toList.map (fun x=>st.get E.P t x.2)=ps.toList.map (fun x=>st'.get E.P t x.2):=fun t=>List.map_congr_left fun x hx=>hg x.2 (by rw [hop];simp [Op.operands];exact ⟨x.1,by simpa using hx⟩) _ _
  unfold opQ0 at h ⊢
  rw [hop] at h ⊢
  simp only [e] at h ⊢
  exact h
 | buildSlice t n ps =>
  have e:∀ t,ps.toList.map (fun x=>st.get E.P t x.2)=ps.toList.map (fun x=>st'.get E.P t x.2):=fun t=>List.map_congr_left fun x hx=>hg x.2 (by rw [hop];simp [Op.operands];exact ⟨x.1,by simpa using hx⟩) _ _
  unfold opQ0 at h ⊢
  rw [hop] at h ⊢
  simp only [e] at h ⊢
  exact h
 | makeFunc f first caps =>
  have e:∀ t,caps.toList.map (st.get E.P t)=caps.toList.map (st'.get E.P t):=fun t=>List.map_congr_left fun x hx=>hg x (by rw [hop];simp only [Op.operands];exact Array.mem_append_right _ (by simpa using hx)) _ _
  cases f with
  | func f =>
   unfold opQ0 at h ⊢
   rw [hop] at h ⊢
   simp only [e] at h ⊢
   exact h
  | _=>unfold opQ0 at h;rw [hop] at h;cases h
 | alloc t =>
  unfold opQ0 at h ⊢
  rw [hop] at h ⊢
  exact h
 | pick c x y =>
  have e1:=hg c (by rw [hop];simp [Op.operands])
  have e2:=hg x (by rw [hop];simp [Op.operands])
  have e3:=hg y (by rw [hop];simp [Op.operands])
  unfold opQ0 at h ⊢
  rw [hop] at h ⊢
  simp only [e1,e2,e3] at h ⊢
  exact h
 | binOp op t x y u =>
  have e1:=hg x (by rw [hop];simp [Op.operands])
  have e2:=hg y (by rw [hop];simp [Op.operands])
  unfold opQ0 at h ⊢
  rw [hop] at h ⊢
  simp only [e1,e2] at h ⊢
  exact h
 | index t x y =>
  have e1:=hg x (by rw [hop];simp [Op.operands])
  have e2:=hg y (by rw [hop];simp [Op.operands])
  unfold opQ0 at h ⊢
  rw [hop] at h ⊢
  simp only [e1,e2] at h ⊢
  exact h
 | makeSlice t x y =>
  have e1:=hg x (by rw [hop];simp [Op.operands])
  have e2:=hg y (by rw [hop];simp [Op.operands])
  unfold opQ0 at h ⊢
  rw [hop] at h ⊢
  simp only [e1,e2] at h ⊢
  exact h
 | move x|assign x|box _ x|nilCheck x|field _ x _|extract x _|unOp _ _ x =>
  have e1:=hg x (by rw [hop];simp [Op.operands])
  unfold opQ0 at h ⊢
  rw [hop] at h ⊢
  simp only [e1] at h ⊢
  exact h
 | makeMap t r =>
  cases r with
  | none =>
   unfold opQ0 at h ⊢
   rw [hop] at h ⊢
   exact h
  | some _=>unfold opQ0 at h;rw [hop] at h;cases h
 | lookup t x i c =>
  cases c with
  | true=>unfold opQ0 at h;rw [hop] at h;cases h
  | false =>
   have e:=hg x (by rw [hop];simp [Op.operands])
   have e2:=hg i (by rw [hop];simp [Op.operands])
   unfold opQ0 at h ⊢
   rw [hop] at h ⊢
   simp only [e,e2] at h ⊢
   revert h
   split
   ·rename_i m _ _
    intro h
    cases hh:Obs.get st.B m with
    | none=>rw [hh] at h;cases h
    | some ob =>
     rw [hB m ob (fun hd=>by subst hd;obtain ⟨l,rfl,_⟩:=Obs.hp_of hh;rw [hh] at h;cases h) hh]
     rw [hh] at h;exact h
   ·exact id
 | _=>unfold opQ0 at h;rw [hop] at h;cases h

theorem opH_congr (hH:Obs.hps st'.B=Obs.hps st.B){o:Oper}(hg:∀ x ∈ o.op.operands,∀ P t,st.get P t x=st'.get P t x){r:Out}(h:opH E o st pairK=some r):opH E o st' pairK=some r:=by
 cases hop:o.op with
 | build t ps =>
  have e:∀ t,ps.toList.map (fun x=>st.get E.P t x.2)=ps.toList.map (fun x=>st'.get E.P t x.2):=fun t=>List.map_congr_left fun x hx=>hg x.2 (by rw [hop];simp [Op.operands];exact ⟨x.1,by simpa using hx⟩) _ _
  unfold opH at h ⊢
  rw [hop] at h ⊢
  simp only [e] at h ⊢
  exact h
 | buildSlice t n ps =>
  have e:∀ t,ps.toList.map (fun x=>st.get E.P t x.2)=ps.toList.map (fun x=>st'.get E.P t x.2):=fun t=>List.map_congr_left fun x hx=>hg x.2 (by rw [hop];simp [Op.operands];exact ⟨x.1,by simpa using hx⟩) _ _
  unfold opH at h ⊢
  rw [hop] at h ⊢
  simp only [e,hH] at h ⊢
  exact h
 | alloc t =>
  unfold opH at h ⊢
  rw [hop] at h ⊢
  simp only [hH] at h ⊢
  exact h
 | box t x =>
  have e1:=hg x (by rw [hop];simp [Op.operands])
  unfold opH at h ⊢
  rw [hop] at h ⊢
  simp only [e1,hH] at h ⊢
  exact h
 | makeSlice t x y =>
  have e1:=hg x (by rw [hop];simp [Op.operands])
  have e2:=hg y (by rw [hop];simp [Op.operands])
  unfold opH at h ⊢
  rw [hop] at h ⊢
  simp only [e1,e2,hH] at h ⊢
  exact h
 | _=>unfold opH at h;rw [hop] at h;cases h

theorem opQ_congr (hB:∀ d x,d≠HL→Obs.get st.B d=some x→Obs.get st'.B d=some x)(hH:∃ l,Obs.hps st'.B=Obs.hps st.B++l)(hA:Obs.hasH st'.B=Obs.hasH st.B){o:Oper}(hE:hpOp E o=true→o.op.makes=true→Obs.hps st'.B=Obs.hps st.B)
  (hg:∀ x ∈ o.op.operands,∀ P t,st.get P t x=st'.get P t x){r:Out}(h:opQ E o st pairK=some r):opQ E o st' pairK=some r:=by
 unfold opQ at h ⊢
 cases hp:hpOp E o with
 | false=>rw [hp] at h;exact opQ0_congr hB hH hg h
 | true =>
  rw [hp] at h
  simp only [cond_true] at h ⊢
  obtain ⟨h1,h⟩:=cond_some h
  rw [hA,h1,cond_true]
  by_cases hm:o.op.makes=true
  ·exact opH_congr (hE hp hm) hg h
  ·cases hop:o.op with
   | build t ps =>
    have e:∀ t,ps.toList.map (fun x=>st.get E.P t x.2)=ps.toList.map (fun x=>st'.get E.P t x.2):=fun t=>List.map_congr_left fun x hx=>hg x.2 (by rw [hop];simp [Op.operands];exact ⟨x.1,by simpa using hx⟩) _ _
    unfold opH at h ⊢
    rw [hop] at h ⊢
    simp only [e] at h ⊢
    exact h
   | alloc _=>rw [hop] at hm;exact absurd rfl hm
   | box _ _=>rw [hop] at hm;exact absurd rfl hm
   | buildSlice _ _ _=>rw [hop] at hm;exact absurd rfl hm
   | makeSlice _ _ _=>rw [hop] at hm;exact absurd rfl hm
   | _=>unfold opH at h;rw [hop] at h;cases h

end
end Go.X
/- The interpreter X, part 36: regions whose order is drawn: what is asked of them; what comes ahead of what. -/
namespace Go.X
open Go

/-- Operations that look at nothing but what they are handed. -/
def pureOp (o:Oper):Bool :=
 match o.op with
 | .extract _ _=>true
 | .move _=>true
 | .assign _=>true
 | .slice _ _ _ _ _=>true
 | .indexAddr _ _ _=>true
 | .fieldAddr _ _ _=>true
 | .nilCheck _=>true
 | _=>false
/-- Where an operation writes, where it is one of those whose order is drawn. -/
def dstA (ops:Array Oper)(o:Oper):Option Nat:=bif skipOp ops o then none else o.dst
def lateAt (ops:Array Oper)(j:Nat):Bool:=match ops[j]? with|some o=>skipOp ops o|none=>true
/-- An operation that may be taken ahead of any that does not wait for it. -/
def freeP (ops:Array Oper)(j:Nat):Bool :=
 match ops[j]? with
 | some o=>pureOp o &&
  ((List.range ops.size).all fun k=>k==j || (k.blt j&&!lateAt ops k) || k.blt (nHead ops) || (match ops[k]? with
   | some y=>(y.after.toList.any fun e=>Region.binds .any e&&e.on==j) || o.apart ops y
   | none=>true))
 | none=>false
/-- The like of one of the last. -/
def freeT (ops:Array Oper)(j:Nat):Bool :=
 match ops[j]? with
 | some o=>pureOp o&&((List.range ops.size).all fun k=>k.ble j || !tailAt ops k || (match ops[k]? with
   | some y=>(y.after.toList.any fun e=>Region.binds .any e&&e.on==j) || o.apart ops y
   | none=>true))
 | none=>false
/-- Does each of the last operations wait for this one? -/
def fastB (ops:Array Oper)(bf:Array Nat)(i:Nat):Bool :=
 (List.range ops.size).all fun j=>!tailAt ops j || (bf.getD j 0).testBit i
/-- The last operations' places: each is waited for by all behind it, or may be taken; but for two, at a place, that may change places. -/
def tailsP (ops:Array Oper)(bf:Array Nat):List Nat→Bool
 | []=>true
 | k :: ks=>((ks.all fun j=>(bf.getD j 0).testBit k) || freeT ops k)&&tailsP ops bf ks
def tailsS (ops:Array Oper)(bf:Array Nat):Nat→List Nat→Bool
 | 0,x :: y :: ks=>(ks.all fun j=>(bf.getD j 0).testBit x&&(bf.getD j 0).testBit y)&&tailsP ops bf ks
 | 0,_=>false
 | _+1,[]=>false
 | p+1,k :: ks=>((ks.all fun j=>(bf.getD j 0).testBit k) || freeT ops k)&&tailsS ops bf p ks
def tailsOk (ops:Array Oper)(bf:Array Nat):Option Nat→List Nat→Bool
 | none,ks=>tailsP ops bf ks
 | some p,ks=>tailsS ops bf p ks

/-- Loads, then a store, then others that wait for all of them. -/
def tailsL (ops:Array Oper)(bf:Array Nat)(X:List Oper)(y:Oper)(ks:List Nat):Bool :=
 ((ks.drop (X.length+1)).all fun j=>(ks.take (X.length+1)).all fun i=>(bf.getD j 0).testBit i)&&(tailsP ops bf (ks.drop (X.length+1)) &&
  ((X.all fun x=>X.all fun z=>x.dst==z.dst || x.apart ops z)&&((X.all fun x=>waitsD ops y x || x.apart ops y)&&((((ks.take X.length).zip X).all fun p=>!waitsD ops y p.2 || (bf.getD (ks.getD X.length 0) 0).testBit p.1)&&((match y.op with|.store _ (.tmp _) _=>true|_=>false)&&nodupB (X.filterMap (·.dst)))))))
def tailsAll (ops:Array Oper)(bf:Array Nat)(L:List Oper)(ks:List Nat):Bool :=
 match loadsT L with
 | some (X,y,_)=>tailsL ops bf X y ks
 | none=>tailsOk ops bf ((swapT ops L).map fun x=>x.1.length) ks

/-- A new variable that is given its content: nothing else looks at it. -/
def freshOk (ops:Array Oper)(j:Nat):Bool :=
 match ops[j]? with
 | some o =>
  (match o.op with
  | .store _ (.tmp a) _=>o.dst.isNone&&((List.range ops.size).all fun k=>k==j || (match ops[k]? with|some y=>!(y.looksAt ops).contains a|none=>true))
  | _=>true)
 | none=>true

/-- Bytes that go on as data: nothing else looks at their row. -/
def linOk (ops:Array Oper)(j:Nat):Bool :=
 match ops[j]? with
 | some o =>
  (match linOf ops o with
  | some a=>(List.range ops.size).all fun k=>k==j || (match ops[k]? with|some y=>!(y.looksAt ops).contains a|none=>true)
  | none=>true)
 | none=>true

/-- The load that is held, as it stands to the others. -/
def heldAt (ops:Array Oper)(j:Nat):Bool:=match heldK ops with|some (kx,_)=>kx==j|none=>false
def heldFree (ops:Array Oper)(j:Nat):Bool :=
 match heldK ops with
 | some (kx,_)=>kx==j || (match ops[kx]?,ops[j]? with|some x,some o=>(x.after.toList.any fun e=>Region.binds .any e&&e.on==j) || o.apart ops x|_,_=>false)
 | none=>true
def heldB (ops:Array Oper)(bf:Array Nat)(ks:List Nat):Bool :=
 match heldK ops with
 | none=>true
 | some (kx,ky) =>
  (match ops[kx]?,ops[ky]? with|some x,some y=>x.apart ops y|_,_=>false)&&((match ks with|k :: ks'=>k==ky&&ks'.all fun j=>(bf.getD j 0).testBit kx&&(bf.getD j 0).testBit ky|[]=>false) &&
   (((List.range ops.size).all fun j=>lateAt ops j || !(ops[j]?.map fun o=>o.after.toList.any fun e=>Region.binds .any e&&e.on==kx).getD false) &&
    ((loadsT (ops.toList.filter fun o=>tailOp ops o&&!headOp ops o)).isNone&&(swapT ops (ops.toList.filter fun o=>tailOp ops o&&!headOp ops o)).isNone)))
/-- Is a region such that its order does not matter? -/
def dOk (ops:Array Oper):Bool :=
 let bf:=Region.before ops
 let h:=nHead ops
 let ks:=(List.range ops.size).filter fun k=>tailAt ops k
 Region.noSelect ops &&
 ((List.range ops.size).all fun j=>match ops[j]? with|some o=>o.after.toList.all fun e=>!Region.binds .any e || e.on.blt j|none=>true) &&
 ((List.range ops.size).all fun j=>lateAt ops j || ((List.range j).all fun i=>lateAt ops i || (bf.getD j 0).testBit i || (match ops[i]?,ops[j]? with|some x,some y=>x.apart ops y|_,_=>false))) &&
 ((List.range ops.size).all fun j=>h.ble j || (lateAt ops j&&!tailAt ops j&&((List.range ops.size).all fun i=>i.ble j || (bf.getD i 0).testBit j))) &&
 ((List.range ops.size).all fun j=>j.blt h || !lateAt ops j || tailAt ops j) &&
 tailsAll ops bf (ops.toList.filter fun o=>tailOp ops o&&!headOp ops o) ks &&
 ((List.range ops.size).all fun j=>lateAt ops j || ((ops[j]?.map fun o=>o.after.toList.all fun e=>!Region.binds .any e || (e.on.blt h || !lateAt ops e.on)).getD false&&(fastB ops bf j || (freeP ops j&&heldFree ops j) || heldAt ops j)))&&heldB ops bf ks &&
 ((List.range ops.size).all fun j=>lateAt ops j || freshOk ops j) &&
 ((List.range ops.size).all fun j=>linOk ops j) &&
 nodupB (ops.toList.filterMap (dstA ops))&&(ops.toList.all fun o=>skipOp ops o || ((o.dst.getD 0).blt lowB&&(!laysOp o || o.dst.isSome)))

/-- An operation has another ahead of it. -/
inductive Bef (ops:Array Oper):Nat→Nat→Prop
 | edge {j o e}:ops[j]?=some o→e ∈ o.after→Region.binds .any e=true→Bef ops j e.on
 | trans {j o e i}:ops[j]?=some o→e ∈ o.after→Region.binds .any e=true→Bef ops e.on i→Bef ops j i

theorem inner_fold (acc:Array Nat):∀ (l:List Edge)(s i:Nat),(l.foldl (fun s e=>if Region.binds .any e then s ||| 2 ^ e.on ||| acc.getD e.on 0 else s) s).testBit i=true →
  s.testBit i=true∨∃ e ∈ l,Region.binds .any e=true∧(i=e.on∨(acc.getD e.on 0).testBit i=true)
 | [],s,i,h=>.inl h
 | e :: l,s,i,h=>by
  rw [List.foldl_cons] at h
  rcases inner_fold acc l _ i h with h1|⟨e',h1,h2,h3⟩
  ·by_cases hb:Region.binds .any e=true
   ·rw [if_pos hb,Nat.testBit_or,Nat.testBit_or] at h1
    simp only [Bool.or_eq_true] at h1
    rcases h1 with (h1|h1)|h1
    ·exact .inl h1
    ·rw [Nat.testBit_two_pow] at h1
     exact .inr ⟨e,by simp,hb,.inl (by simpa using (of_decide_eq_true h1).symm)⟩
    ·exact .inr ⟨e,by simp,hb,.inr h1⟩
   ·rw [if_neg hb] at h1;exact .inl h1
  ·exact .inr ⟨e',List.mem_cons_of_mem _ h1,h2,h3⟩

theorem before_fold (ops:Array Oper):∀ (l:List Oper)(acc:Array Nat),(∀ j,l[j]?=ops[acc.size+j]?)→(∀ j i,(acc.getD j 0).testBit i=true→Bef ops j i) →
  ∀ j i,((l.foldl (fun acc o=>acc.push (o.after.foldl (fun s e=>if Region.binds .any e then s ||| 2 ^ e.on ||| acc.getD e.on 0 else s) 0)) acc).getD j 0).testBit i=true→Bef ops j i
 | [],acc,_,hacc,j,i,h=>hacc j i h
 | o :: l,acc,hl,hacc,j,i,h=>by
  rw [List.foldl_cons] at h
  refine before_fold ops l _ (fun k=>?_) (fun k i hk=>?_) j i h
  ·rw [Array.size_push]
   have:=hl (k+1)
   rw [List.getElem?_cons_succ] at this
   rw [this];congr 1;omega
  ·by_cases hks:k=acc.size
   ·subst hks
    have ho:ops[acc.size]?=some o:=by have:=hl 0;simpa using this.symm
    rw [Array.getD_eq_getD_getElem?,Array.getElem?_push_size,Option.getD_some] at hk
    rw [←Array.foldl_toList] at hk
    rcases inner_fold acc o.after.toList 0 i hk with h1|⟨e,h1,h2,h3⟩
    ·simp at h1
    ·have he:e ∈ o.after:=by simpa using h1
     rcases h3 with h3|h3
     ·subst h3;exact .edge ho he h2
     ·exact .trans ho he h2 (hacc _ _ h3)
   ·rw [Array.getD_eq_getD_getElem?,Array.getElem?_push] at hk
    rw [if_neg (fun h=>hks h)] at hk
    exact hacc k i (by rw [Array.getD_eq_getD_getElem?];exact hk)

theorem before_spec (ops:Array Oper){j i:Nat}(h:((Region.before ops).getD j 0).testBit i=true):Bef ops j i:=by
 unfold Region.before at h
 rw [←Array.foldl_toList] at h
 exact before_fold ops ops.toList #[] (fun j=>by simp) (fun j i h=>by simp at h) j i h

/-- What is listed has all that it needs listed. -/
def Closed (ops:Array Oper)(listed:Array Bool):Prop :=
 ∀ (j:Nat)(o:Oper),ops[j]?=some o→listed.getD j false=true→∀ e ∈ o.after,Region.binds .any e=true→listed.getD e.on false=true

theorem closed_bef {ops:Array Oper}{listed:Array Bool}(hc:Closed ops listed){j i:Nat}(h:Bef ops j i):(∀ o,ops[j]?=some o→∀ e ∈ o.after,Region.binds .any e=true→listed.getD e.on false=true)→listed.getD i false=true:=by
 induction h with
 | edge ho he hb=>exact fun h=>h _ ho _ he hb
 | trans ho he hb _ ih =>
  intro h
  have hk:=h _ ho _ he hb
  exact ih fun o' ho'=>hc _ o' ho' hk

theorem bef_listed {ops:Array Oper}{listed:Array Bool}(hc:Closed ops listed){j i:Nat}(h:Bef ops j i)(hj:listed.getD j false=true):listed.getD i false=true :=
 closed_bef hc h fun o ho=>hc j o ho hj

theorem getD_set (listed:Array Bool)(i j:Nat)(d:Bool)(hi:i < listed.size):(listed.setIfInBounds i true).getD j d=if i=j then true else listed.getD j d:=by
 by_cases h:i=j
 ·subst h;rw [if_pos rfl];simp [hi]
 ·rw [if_neg h];exact getD_set_ne d h

theorem closed_set {ops:Array Oper}{listed:Array Bool}(hc:Closed ops listed){i:Nat}(hi:i < listed.size)(hr:∀ o,ops[i]?=some o→∀ e ∈ o.after,Region.binds .any e=true→listed.getD e.on false=true):Closed ops (listed.setIfInBounds i true):=by
 intro j o ho hj e he hb
 rw [getD_set _ _ _ _ hi] at hj ⊢
 by_cases h:i=e.on
 ·rw [if_pos h]
 ·rw [if_neg h]
  by_cases hij:i=j
  ·subst hij;exact hr o ho e he hb
  ·rw [if_neg hij] at hj;exact hc j o ho hj e he hb

/-- How many of the first, of those that change nothing, are not listed. -/
def unl (ops:Array Oper)(listed:Array Bool):Nat→Nat
 | 0=>0
 | k+1=>unl ops listed k+(if listed.getD k false=true∨lateAt ops k=true then 0 else 1)
theorem unl_zero {ops:Array Oper}{listed:Array Bool}:∀ {m:Nat},unl ops listed m=0→∀ j,j < m→lateAt ops j=false→listed.getD j false=true
 | 0,_,j,hj,_=>by omega
 | m+1,h,j,hj,hl=>by
  unfold unl at h
  by_cases hlm:listed.getD m false=true∨lateAt ops m=true
  ·rw [if_pos hlm] at h
   by_cases hjm:j=m
   ·subst hjm
    rcases hlm with h|h
    ·exact h
    ·rw [hl] at h;cases h
   ·exact unl_zero (m:=m) h j (by omega) hl
  ·rw [if_neg hlm] at h;omega
theorem unl_set {ops:Array Oper}{listed:Array Bool}{i:Nat}(hi:i < listed.size)(hu:listed.getD i false=false)(hl:lateAt ops i=false):∀ m,(m≤i→unl ops (listed.setIfInBounds i true) m=unl ops listed m)∧(i < m→unl ops (listed.setIfInBounds i true) m+1=unl ops listed m)
 | 0=>⟨fun _=>rfl,fun h=>by omega⟩
 | m+1=>by
  obtain ⟨h1,h2⟩:=unl_set hi hu hl m
  unfold unl
  rw [getD_set _ _ _ _ hi]
  by_cases him:i=m
  ·subst him
   rw [if_pos rfl]
   refine ⟨fun h=>by omega,fun _=>?_⟩
   rw [h1 (Nat.le_refl _),hu,hl];simp
  ·rw [if_neg him]
   generalize (if listed.getD m false=true∨lateAt ops m=true then 0 else 1)=c
   exact ⟨fun h=>by rw [h1 (by omega)],fun h=>by have:=h2 (by omega);omega⟩
theorem unl_ex {ops:Array Oper}{listed:Array Bool}:∀ {m:Nat},unl ops listed m≠0→∃ k,k < m∧listed.getD k false=false∧lateAt ops k=false∧∀ j,j < k→lateAt ops j=false→listed.getD j false=true
 | 0,h=>absurd rfl h
 | m+1,h=>by
  by_cases h0:unl ops listed m=0
  ·refine ⟨m,by omega,?_,?_,unl_zero h0⟩
   all_goals
    unfold unl at h
    rw [h0] at h
    by_cases hl:listed.getD m false=true∨lateAt ops m=true
    ·rw [if_pos hl] at h;omega
   ·simp only [not_or,Bool.not_eq_true] at hl;exact hl.1
   ·simp only [not_or,Bool.not_eq_true] at hl;exact hl.2
  ·obtain ⟨k,k1,k2,k3,k4⟩:=unl_ex (m:=m) h0
   exact ⟨k,by omega,k2,k3,k4⟩

/-- What is asked of the last operations, one by one. -/
def TailsP (ops:Array Oper):List Nat→Prop
 | []=>True
 | k :: ks=>((∀ j ∈ ks,Bef ops j k)∨freeT ops k=true)∧TailsP ops ks
def TailsS (ops:Array Oper):Nat→List Nat→Prop
 | 0,x :: y :: ks=>(∀ j ∈ ks,Bef ops j x∧Bef ops j y)∧TailsP ops ks
 | 0,_=>False
 | _+1,[]=>False
 | p+1,k :: ks=>((∀ j ∈ ks,Bef ops j k)∨freeT ops k=true)∧TailsS ops p ks
def TailsOk (ops:Array Oper):Option Nat→List Nat→Prop
 | none,ks=>TailsP ops ks
 | some p,ks=>TailsS ops p ks
theorem tailsP_spec {ops:Array Oper}:∀ (ks:List Nat),tailsP ops (Region.before ops) ks=true→TailsP ops ks
 | [],_=>trivial
 | k :: ks,h=>by
  have h:(((ks.all fun j=>((Region.before ops).getD j 0).testBit k) || freeT ops k)&&tailsP ops (Region.before ops) ks)=true:=h
  rw [Bool.and_eq_true,Bool.or_eq_true] at h
  refine ⟨?_,tailsP_spec ks h.2⟩
  rcases h.1 with h|h
  ·exact .inl fun j hj=>before_spec ops (List.all_eq_true.1 h j hj)
  ·exact .inr h
theorem tailsS_spec {ops:Array Oper}:∀ (p:Nat)(ks:List Nat),tailsS ops (Region.before ops) p ks=true→TailsS ops p ks
 | 0,[],h=>by cases h
 | 0,[_],h=>by cases h
 | 0,x :: y :: ks,h=>by
  have h:((ks.all fun j=>((Region.before ops).getD j 0).testBit x&&((Region.before ops).getD j 0).testBit y)&&tailsP ops (Region.before ops) ks)=true:=h
  rw [Bool.and_eq_true] at h
  refine ⟨fun j hj=>?_,tailsP_spec ks h.2⟩
  have:=List.all_eq_true.1 h.1 j hj
  rw [Bool.and_eq_true] at this
  exact ⟨before_spec ops this.1,before_spec ops this.2⟩
 | _+1,[],h=>by cases h
 | p+1,k :: ks,h=>by
  have h:(((ks.all fun j=>((Region.before ops).getD j 0).testBit k) || freeT ops k)&&tailsS ops (Region.before ops) p ks)=true:=h
  rw [Bool.and_eq_true,Bool.or_eq_true] at h
  refine ⟨?_,tailsS_spec p ks h.2⟩
  rcases h.1 with h|h
  ·exact .inl fun j hj=>before_spec ops (List.all_eq_true.1 h j hj)
  ·exact .inr h
theorem tailsOk_spec {ops:Array Oper}:∀ (sw:Option Nat)(ks:List Nat),tailsOk ops (Region.before ops) sw ks=true→TailsOk ops sw ks
 | none,ks,h=>tailsP_spec ks h
 | some p,ks,h=>tailsS_spec p ks h
/-- What is asked of loads, and a store behind them. -/
structure LoadsOk (ops:Array Oper)(X:List Oper)(y:Oper)(ks:List Nat):Prop where
 post:∀ j ∈ ks.drop (X.length+1),∀ i ∈ ks.take (X.length+1),Bef ops j i
 tails:TailsP ops (ks.drop (X.length+1))
 apart:∀ x ∈ X,∀ z ∈ X,x.dst=z.dst∨x.apart ops z=true
 store:∀ x ∈ X,waitsD ops y x=true∨x.apart ops y=true
 waits:∀ p ∈ (ks.take X.length).zip X,waitsD ops y p.2=true→Bef ops (ks.getD X.length 0) p.1
 addr:∃ t b v,y.op=.store t (.tmp b) v
 nd:(X.filterMap (·.dst)).Nodup
def TailsAll (ops:Array Oper)(L:List Oper)(ks:List Nat):Prop :=
 match loadsT L with
 | some (X,y,_)=>LoadsOk ops X y ks
 | none=>TailsOk ops ((swapT ops L).map fun x=>x.1.length) ks
theorem tailsAll_spec {ops:Array Oper}(L:List Oper)(ks:List Nat)(h:tailsAll ops (Region.before ops) L ks=true):TailsAll ops L ks:=by
 unfold tailsAll at h
 unfold TailsAll
 split at h
 ·rename_i X y _ hl
  unfold tailsL at h
  simp only [Bool.and_eq_true,List.all_eq_true,Bool.or_eq_true,beq_iff_eq] at h
  obtain ⟨h1,h2,h3,h4,h7,h5,h6⟩:=h
  refine ⟨fun j hj i hi=>before_spec ops (h1 j hj i hi),tailsP_spec _ h2,h3,h4,fun p hp hw=>?_,?_,nodupB_iff h6⟩
  ·rcases h7 p hp with h|h
   ·rw [hw] at h;cases h
   ·exact before_spec ops h
  split at h5
  ·rename_i t b v hop
   exact ⟨t,b,v,hop⟩
  ·cases h5
 ·rename_i hl
  exact tailsOk_spec _ _ h
/-- What is to be shown of the last operations. -/
def wpP (P:Program)(ops:Array Oper)(Q:Exit→Act→World→Prop):List Nat→Act→World→Prop
 | [],a,w=>Q .normal a w
 | k :: ks,a,w=>wpOp P ops Q k (wpP P ops Q ks) a w
def wpS (P:Program)(ops:Array Oper)(Q:Exit→Act→World→Prop):Nat→List Nat→Act→World→Prop
 | 0,x :: y :: ks,a,w=>wpOp P ops Q x (wpOp P ops Q y (wpP P ops Q ks)) a w∧wpOp P ops Q y (wpOp P ops Q x (wpP P ops Q ks)) a w
 | 0,_,_,_=>False
 | _+1,[],_,_=>False
 | p+1,k :: ks,a,w=>wpOp P ops Q k (wpS P ops Q p ks) a w
def wpT (P:Program)(ops:Array Oper)(Q:Exit→Act→World→Prop):Option Nat→List Nat→Act→World→Prop
 | none,ks,a,w=>wpP P ops Q ks a w
 | some p,ks,a,w=>wpS P ops Q p ks a w
theorem wpOps_wpT {P:Program}{ops:Array Oper}{Q:Exit→Act→World→Prop}:∀ (ks:List Nat)(a:Act)(w:World),wpOps P ops Q ks a w→wpP P ops Q ks a w
 | [],a,w,h=>h
 | k :: ks,a,w,h=>by
  rw [wpOps_cons] at h
  exact wpOp_mono (fun a w h=>wpOps_wpT ks a w h) h

/-- An operation that looks at nothing but what it is handed, as it will be shown of one: what it yields, and what is behind. -/
def PureY (P:Program)(ops:Array Oper)(Q:Exit→Act→World→Prop):Prop :=
 ∀ {j:Nat}{o:Oper},ops[j]?=some o→pureOp o=true→∀ {K:Act→World→Prop}{a:Act}{w:World},wpOp P ops Q j K a w→∃ v,Yields P ops o v a∧K (a.put o.dst v) w

/-- One that all others wait for. -/
theorem any_cons {P:Program}{ops:Array Oper}{Q:Exit→Act→World→Prop}{k:Nat}{listed:Array Bool}{a:Act}{w:World}(hs:listed.size=ops.size)(hc:Closed ops listed)(hkl:k < ops.size)(hk:listed.getD k false=false)
  (hr:∀ o,ops[k]?=some o→∀ e ∈ o.after,Region.binds .any e=true→listed.getD e.on false=true)(hall:∀ j,j < ops.size→listed.getD j false=false→j=k∨Bef ops j k){n:Nat}{K:Act→World→Prop}
  (hK:∀ a w,K a w→wpAny P .any ops Q n (listed.setIfInBounds k true) a w)(h:wpOp P ops Q k K a w):wpAny P .any ops Q (n+1) listed a w:=by
 have getb:∀ i (b:Bool),i < ops.size→listed.getD i b=listed.getD i false:=by
  intro i b hi
  rw [Array.getD_eq_getD_getElem?,Array.getD_eq_getD_getElem?,Array.getElem?_eq_getElem (by omega)];rfl
 have hko:ops[k]?=some ops[k]:=Array.getElem?_eq_getElem hkl
 have hready:k ∈ Region.ready .any ops listed:=mem_ready.2 ⟨by rw [getb k true hkl];exact hk,_,hko,hr _ hko⟩
 refine ⟨(fun h0=>by rw [h0] at hready;cases hready),fun i hi=>?_⟩
 obtain ⟨h1,o,ho,h2⟩:=mem_ready.1 hi
 have hil:=(Array.getElem?_eq_some_iff.1 ho).1
 rw [getb i true hil] at h1
 have hik:i=k:=by
  rcases hall i hil h1 with h|h
  ·exact h
  ·exfalso
   have:=closed_bef hc h (fun o' ho' e he hb=>h2 e (by rw [ho] at ho';injection ho' with ho';rw [ho'];exact he) hb)
   rw [hk] at this;cases this
 subst hik
 exact wpOp_mono (fun a w h=>hK a w h) h

/-- The last operations, when all others are listed. -/
theorem any_tail {P:Program}{ops:Array Oper}{Q:Exit→Act→World→Prop}(hsel:Region.noSelect ops=true)(hQn:∀ e a w,Q e a w→e=.normal)(hpure:PureY P ops Q)(hlt:∀ (j:Nat)(o:Oper),ops[j]?=some o→∀ e ∈ o.after,Region.binds .any e=true→e.on < j) :
  ∀ (ks:List Nat)(sw:Option Nat)(listed:Array Bool)(a:Act)(w:World),ks.Pairwise (· < ·)→(∀ k ∈ ks,k < ops.size∧tailAt ops k=true)→listed.size=ops.size→Closed ops listed →
   (∀ j,j < ops.size→(listed.getD j false=false ↔ j ∈ ks))→TailsOk ops sw ks→wpT P ops Q sw ks a w→wpAny P .any ops Q ks.length listed a w
 | [],sw,listed,a,w,hp,hks,hs,hc,hl,ht,h=>by
  have h:Q .normal a w:=by
   match sw,h with
   | none,h=>exact h
   | some 0,h=>exact h.elim
   | some (_+1),h=>exact h.elim
  refine ⟨?_,h⟩
  rw [List.eq_nil_iff_forall_not_mem]
  intro i hi
  obtain ⟨h1,o,ho,_⟩:=mem_ready.1 hi
  have hlt':=(Array.getElem?_eq_some_iff.1 ho).1
  have h2:=hl i hlt'
  rw [Array.getD_eq_getD_getElem?,Array.getElem?_eq_getElem (by omega),Option.getD_some] at h1
  rw [Array.getD_eq_getD_getElem?,Array.getElem?_eq_getElem (by omega),Option.getD_some] at h2
  have:=h2.1 h1
  simp at this
 | k :: ks,sw,listed,a,w,hp,hks,hs,hc,hl,ht,h=>by
  obtain ⟨hkl,hklate⟩:=hks k (by simp)
  have hko:ops[k]?=some ops[k]:=Array.getElem?_eq_getElem hkl
  have getb:∀ i (b:Bool),i < ops.size→listed.getD i b=listed.getD i false:=by
   intro i b hi
   rw [Array.getD_eq_getD_getElem?,Array.getD_eq_getD_getElem?,Array.getElem?_eq_getElem (by omega)];rfl
  rw [List.pairwise_cons] at hp
  have hready:k ∈ Region.ready .any ops listed:=mem_ready.2 ⟨by rw [getb k true hkl];exact (hl k hkl).2 (by simp),_,hko,fun e he hb=>by
   have hek:=hlt k _ hko e he hb
   cases hg:listed.getD e.on false with
   | true=>rfl
   | false =>
    have:=(hl e.on (by omega)).1 hg
    rcases List.mem_cons.1 this with h|h
    ·omega
    ·have:=hp.1 _ h;omega⟩
  -- the state with one more
  have more:∀ i,i ∈ k :: ks→(∀ o,ops[i]?=some o→∀ e ∈ o.after,Region.binds .any e=true→listed.getD e.on false=true)→Closed ops (listed.setIfInBounds i true)∧∀ j,j < ops.size→((listed.setIfInBounds i true).getD j false=false ↔ j ∈ (k :: ks)∧j≠i):=by
   intro i hi hr
   have hil:=(hks i hi).1
   refine ⟨closed_set hc (by omega) hr,fun j hj=>?_⟩
   rw [getD_set _ _ _ _ (by omega)]
   by_cases hij:i=j
   ·subst hij;simp
   ·rw [if_neg hij,hl j hj]
    exact ⟨fun h=>⟨h,fun e=>hij e.symm⟩,fun h=>h.1⟩
  have hkr:∀ o,ops[k]?=some o→∀ e ∈ o.after,Region.binds .any e=true→listed.getD e.on false=true:=by
   intro o ho e he hb
   obtain ⟨_,o',ho',h2⟩:=mem_ready.1 hready
   rw [ho] at ho';injection ho' with ho';subst ho'
   exact h2 e he hb
  have memk:∀ j,(j ∈ (k :: ks)∧j≠k) ↔ j ∈ ks:=by
   intro j
   rw [List.mem_cons]
   refine ⟨fun q=>q.1.resolve_left q.2,fun q=>⟨.inr q,fun e=>?_⟩⟩
   subst e
   have:=hp.1 _ q;omega
  -- one by one,in the text's order
  have plain:∀ sw':Option Nat,((∀ j ∈ ks,Bef ops j k)∨freeT ops k=true)→TailsOk ops sw' ks→wpOp P ops Q k (wpT P ops Q sw' ks) a w→wpAny P .any ops Q (k :: ks).length listed a w:=by
   intro sw' ht1 ht2 h
   rcases ht1 with ht1|ht1
   ·obtain ⟨m1,m2⟩:=more k (by simp) hkr
    refine any_cons hs hc hkl ((hl k hkl).2 (by simp)) hkr (fun j hj hj2=>?_) (fun a w h=>any_tail hsel hQn hpure hlt ks sw' _ a w hp.2 (fun k hk=>hks k (List.mem_cons_of_mem _ hk)) (by simpa using hs) m1 (fun j hj=>by rw [m2 j hj,memk]) ht2 h) h
    rcases List.mem_cons.1 ((hl j hj).1 hj2) with h|h
    ·exact .inl h
    ·exact .inr (ht1 j h)
   ·-- one that is taken
    unfold freeT at ht1
    rw [hko] at ht1
    simp only [Bool.and_eq_true,List.all_eq_true,List.mem_range] at ht1
    obtain ⟨v,hy,h⟩:=hpure hko ht1.1 h
    obtain ⟨m1,m2⟩:=more k (by simp) hkr
    refine wpAny_take hko hsel ?_ (by simpa using hready) (fun ch a w h=>by cases hQn _ _ _ h) hy (any_tail hsel hQn hpure hlt ks sw' _ _ w hp.2 (fun k hk=>hks k (List.mem_cons_of_mem _ hk)) (by simpa using hs) m1 (fun j hj=>by rw [m2 j hj,memk]) ht2 h)
    unfold Region.free
    rw [hko]
    simp only [List.all_eq_true,List.mem_range,Bool.or_eq_true]
    intro j hj
    cases hlj:listed.getD j true with
    | true=>exact .inl (.inr rfl)
    | false =>
     rw [getb j true hj] at hlj
     have hm:=(hl j hj).1 hlj
     rcases List.mem_cons.1 hm with h|h
     ·exact .inl (.inl (by simpa using h))
     ·right
      have hkj:k < j:=hp.1 j h
      have:=ht1.2 j hj
      rw [(hks j hm).2] at this
      simp only [Bool.or_eq_true,Bool.not_true,Bool.false_eq_true,or_false] at this
      rcases this with h2|h2
      ·have h2:j≤k:=by simpa using h2
       omega
      ·rw [Array.getElem?_eq_getElem hj] at h2 ⊢
       simp only [Bool.or_eq_true] at h2 ⊢
       rcases h2 with h2|h2
       ·refine .inl ?_
        rw [List.any_eq_true] at h2
        obtain ⟨e,he,hb⟩:=h2
        exact Array.any_eq_true'.2 ⟨e,by simpa using he,hb⟩
       ·exact .inr h2
  cases sw with
  | none=>exact plain none ht.1 ht.2 h
  | some p =>
  cases p with
  | succ p=>exact plain (some p) ht.1 ht.2 h
  | zero =>
  cases ks with
  | nil=>exact ht.elim
  | cons y ks =>
   obtain ⟨ht1,ht2⟩:=ht
   obtain ⟨h1,h2⟩:=h
   have hyl:=(hks y (by simp)).1
   have hky:k < y:=hp.1 y (by simp)
   have hp2:=hp.2
   rw [List.pairwise_cons] at hp2
   refine ⟨(fun h0=>by rw [h0] at hready;cases hready),fun i hi=>?_⟩
   obtain ⟨q1,o,ho,q2⟩:=mem_ready.1 hi
   have hil:=(Array.getElem?_eq_some_iff.1 ho).1
   rw [getb i true hil] at q1
   have hmem:=(hl i hil).1 q1
   have hri:∀ o',ops[i]?=some o'→∀ e ∈ o'.after,Region.binds .any e=true→listed.getD e.on false=true:=fun o' ho' e he hb=>q2 e (by rw [ho] at ho';injection ho' with ho';rw [ho'];exact he) hb
   obtain ⟨m1,m2⟩:=more i hmem hri
   have hs1:(listed.setIfInBounds i true).size=ops.size:=by simpa using hs
   -- the other one of the two
   have rest:∀ z,z < ops.size→z≠i→(∀ j,j < ops.size→((listed.setIfInBounds i true).getD j false=false ↔ j ∈ z :: ks))→(∀ j ∈ ks,Bef ops j z)→z ∉ ks→(∀ j ∈ ks,z < j)→∀ a w,wpOp P ops Q z (wpT P ops Q none ks) a w→wpAny P .any ops Q (ks.length+1) (listed.setIfInBounds i true) a w:=by
    intro z hz hzi hz1 hz2 hz3 hz4 a w h
    have hzr:∀ o,ops[z]?=some o→∀ e ∈ o.after,Region.binds .any e=true→(listed.setIfInBounds i true).getD e.on false=true:=by
     intro o ho e he hb
     have hez:=hlt z o ho e he hb
     cases hg:(listed.setIfInBounds i true).getD e.on false with
     | true=>rfl
     | false =>
      rcases List.mem_cons.1 ((hz1 e.on (by omega)).1 hg) with h|h
      ·omega
      ·have:=hz4 _ h;omega
    have hzs:(listed.setIfInBounds i true).getD z false=false:=(hz1 z hz).2 (by simp)
    have m3:=closed_set m1 (by rw [hs1];exact hz) hzr
    refine any_cons hs1 m1 hz hzs hzr (fun j hj hj2=>?_) (fun a w h=>any_tail hsel hQn hpure hlt ks none _ a w hp2.2 (fun k hk=>hks k (List.mem_cons_of_mem _ (List.mem_cons_of_mem _ hk))) (by simpa using hs1) m3 (fun j hj=>?_) ht2 h) h
    ·rcases List.mem_cons.1 ((hz1 j hj).1 hj2) with h|h
     ·exact .inl h
     ·exact .inr (hz2 j h)
    ·rw [getD_set _ _ _ _ (by rw [hs1];exact hz)]
     by_cases hzj:z=j
     ·subst hzj;simp [hz3]
     ·rw [if_neg hzj,hz1 j hj,List.mem_cons]
      exact ⟨fun h=>h.resolve_left (fun e=>hzj e.symm),fun h=>.inr h⟩
   rcases List.mem_cons.1 hmem with hik|hmem
   ·subst hik
    refine wpOp_mono (fun a w h=>rest y hyl (by omega) (fun j hj=>?_) (fun j hj=>(ht1 j hj).2) (fun h=>by have:=hp2.1 y h;omega) (fun j hj=>hp2.1 j hj) a w h) h1
    rw [m2 j hj,memk]
   ·rcases List.mem_cons.1 hmem with hiy|hmem
    ·subst hiy
     refine wpOp_mono (fun a w h=>rest k hkl (by omega) (fun j hj=>?_) (fun j hj=>(ht1 j hj).1) (fun h=>by have:=hp.1 k (List.mem_cons_of_mem _ h);omega) (fun j hj=>hp.1 j (List.mem_cons_of_mem _ hj)) a w h) h2
     rw [m2 j hj]
     simp only [List.mem_cons]
     constructor
     ·rintro ⟨h|h|h,h3⟩
      ·exact .inl h
      ·exact absurd h h3
      ·exact .inr h
     ·rintro (h|h)
      ·exact ⟨.inl h,by omega⟩
      ·exact ⟨.inr (.inr h),by have:=hp2.1 j h;omega⟩
    ·exfalso
     have:=closed_bef hc (ht1 i hmem).1 (fun o' ho' e he hb=>q2 e (by rw [ho] at ho';injection ho' with ho';rw [ho'];exact he) hb)
     rw [(hl k hkl).2 (by simp)] at this;cases this

end Go.X
/- The interpreter X, part 37: regions whose order is drawn: the run in the order of the text. -/
namespace Go.X
open Go
section
variable {E : Env}

def putT (T:List SV)(d:Option Nat)(s:SV):List SV:=match d with|some d=>T.set d s|none=>T
theorem put_eq (T:List SV)(B:Obs)(d:Option Nat)(s:SV):({ T:=T,B:=B }:St).put d s={ T:=putT T d s,B:=B }:=by cases d <;> rfl
theorem putT_len (T:List SV)(d:Option Nat)(s:SV):(putT T d s).length=T.length:=by cases d <;> simp [putT]
def putAll (ops:Array Oper):List Oper→List (SV × Obs)→Nat→List SV→List SV
 | _,_,0,T=>T
 | o :: l,x :: tr,j+1,T=>putAll ops l tr j (putT T (dstA ops o) x.1)
 | _,_,_,T=>T

theorem putAll_len (ops:Array Oper):∀ (l:List Oper)(tr:List (SV × Obs))(j:Nat)(T:List SV),(putAll ops l tr j T).length=T.length
 | [],_,0,_|[],_,_+1,_|_ :: _,_,0,_|_ :: _,[],_+1,_=>rfl
 | o :: l,x :: tr,j+1,T=>by
  show (putAll ops l tr j _).length=_
  rw [putAll_len ops l tr j,putT_len]

/-- A slot that no operation writes. -/
theorem putAll_out (ops:Array Oper):∀ (l:List Oper)(tr:List (SV × Obs))(j:Nat)(T:List SV)(i:Nat),(∀ (k:Nat)(o:Oper),k < j→l[k]?=some o→dstA ops o≠some i)→(putAll ops l tr j T)[i]?=T[i]?
 | [],_,0,_,_,_|[],_,_+1,_,_,_|_ :: _,_,0,_,_,_|_ :: _,[],_+1,_,_,_=>rfl
 | o :: l,x :: tr,j+1,T,i,h=>by
  show (putAll ops l tr j _)[i]?=_
  rw [putAll_out ops l tr j _ i (fun k o' hk ho=>h (k+1) o' (by omega) (by simpa using ho))]
  have h0:=h 0 o (by omega) rfl
  unfold putT
  cases hd:dstA ops o with
  | none=>rfl
  | some d =>
   simp only
   rw [List.getElem?_set_ne]
   intro hdi
   subst hdi
   exact h0 hd

theorem filterMap_nodup_ne {ops:Array Oper}{l:List Oper}(h:(l.filterMap (dstA ops)).Nodup):∀ {j k:Nat}{x y:Oper}{d:Nat},l[j]?=some x→l[k]?=some y→dstA ops x=some d→dstA ops y=some d→j=k:=by
 induction l with
 | nil=>intro j k x y d hx;simp at hx
 | cons o l ih =>
  intro j k x y d hx hy hdx hdy
  have hmem:∀ {k:Nat}{y:Oper},l[k]?=some y→dstA ops y=some d→d ∈ l.filterMap (dstA ops):=fun hk hd=>(List.mem_filterMap (f:=dstA ops)).2 ⟨_,List.mem_of_getElem? hk,hd⟩
  have htail:(l.filterMap (dstA ops)).Nodup:=by
   cases ho:dstA ops o with
   | none=>rw [List.filterMap_cons_none ho] at h;exact h
   | some e=>rw [List.filterMap_cons_some ho,List.nodup_cons] at h;exact h.2
  have hhead:∀ e,dstA ops o=some e→e ∉ l.filterMap (dstA ops):=by
   intro e ho
   rw [List.filterMap_cons_some ho,List.nodup_cons] at h;exact h.1
  cases j with
  | zero =>
   replace hx:o=x:=by simpa using hx
   subst hx
   cases k with
   | zero=>rfl
   | succ k=>exact absurd (hmem (by simpa using hy) hdy) (hhead d hdx)
  | succ j =>
   cases k with
   | zero =>
    replace hy:o=y:=by simpa using hy
    subst hy
    exact absurd (hmem (by simpa using hx) hdx) (hhead d hdy)
   | succ k=>exact congrArg (·+1) (ih htail (j:=j) (k:=k) (by simpa using hx) (by simpa using hy) hdx hdy)

/-- A slot that an operation has written. -/
theorem putAll_in (ops:Array Oper):∀ (l:List Oper)(tr:List (SV × Obs))(j:Nat)(T:List SV)(i k:Nat)(o:Oper)(x:SV × Obs),(l.filterMap (dstA ops)).Nodup→l[k]?=some o→tr[k]?=some x→dstA ops o=some i→k < j→i < T.length→(putAll ops l tr j T)[i]?=some x.1
 | [],_,_,_,_,_,_,_,_,h,_,_,_,_=>by simp at h
 | _ :: _,[],_,_,_,_,_,_,_,_,h,_,_,_=>by simp at h
 | _ :: _,_ :: _,0,_,_,_,_,_,_,_,_,_,h,_=>by omega
 | o' :: l,x' :: tr,j+1,T,i,k,o,x,hn,ho,hx,hd,hk,hi=>by
  show (putAll ops l tr j _)[i]?=_
  cases k with
  | zero =>
   replace ho:o'=o:=by simpa using ho
   replace hx:x'=x:=by simpa using hx
   subst ho;subst hx
   rw [putAll_out ops l tr j _ i (fun k o2 hk2 ho2 hd2=>by
    have:=filterMap_nodup_ne hn (j:=0) (k:=k+1) (x:=o') (y:=o2) (d:=i) rfl (by simpa using ho2) hd hd2
    omega)]
   rw [hd]
   show (T.set i x'.1)[i]?=_
   rw [List.getElem?_set_self hi]
  | succ k =>
   have hn':(l.filterMap (dstA ops)).Nodup:=by
    cases ho2:dstA ops o' with
    | none=>rw [List.filterMap_cons_none ho2] at hn;exact hn
    | some e=>rw [List.filterMap_cons_some ho2,List.nodup_cons] at hn;exact hn.2
   exact putAll_in ops l tr j _ i k o x hn' (by simpa using ho) (by simpa using hx) hd (by omega) (by rw [putT_len];exact hi)

/-- What an operation of the run yields. -/
def Yield (E:Env)(ops:Array Oper)(B:Obs)(L:Nat→Ob→Prop)(o:Oper)(T:List SV)(x:SV × Obs):Prop :=
 (∃ j want dj,o.guard=some (j,want)∧(ops[j]?).bind (·.dst)=some dj∧(T.getD dj .dead=.undef∨∃ b,T.getD dj .dead=.bool b∧(b==want)=false)∧x=(.undef,[])) ∨
 ((o.guard=none∨∃ j want dj b,o.guard=some (j,want)∧(ops[j]?).bind (·.dst)=some dj∧T.getD dj .dead=.bool b∧(b==want)=true) ∧
  linOf ops o=none∧opQ E o { T:=T,B:=B } pairK=some ([x.1],x.2)∧(∀ t,o.op=.alloc t→zeroRows E (o.dst.getD 0) 0 (fieldsZ E.P t)=[]) ∧
  (x.2=[]∨(∃ d ob,x.2=[(d,ob)]∧o.dst=some d∧laysOp o=true∧d < lowB)∨∃ ob,x.2=[(HL,ob)]∧(∀ ob',¬ L HL ob')∧Obs.hasH B=true)) ∨
 ((o.guard=none∨∃ j want dj b,o.guard=some (j,want)∧(ops[j]?).bind (·.dst)=some dj∧T.getD dj .dead=.bool b∧(b==want)=true)∧∃ u d e c l,linOf ops o=some d∧convA E o { T:=T,B:=B }=some (.own u d)∧L d (.row e (c :: l))∧x=(.val u (.list (c :: l)),[])) ∨
 ((o.guard=none∨∃ j want dj b,o.guard=some (j,want)∧(ops[j]?).bind (·.dst)=some dj∧T.getD dj .dead=.bool b∧(b==want)=true)∧∃ t d y p s,o.op=.store t (.tmp d) y∧o.dst=none∧T.getD d .dead=.ptr d []∧L d (.box t s)∧(Ob.box t s).putAt E.P t (({ T:=T,B:=B }:St).get E.P t y) []=some p∧x=(.undef,[(d,p)])∧d < lowB)
theorem Yield.more {ops:Array Oper}{B:Obs}{L L':Nat→Ob→Prop}{o:Oper}{T:List SV}{x:SV × Obs}(h:Yield E ops B L o T x)(hL:∀ d ob,L d ob→L' d ob)(hL2:∀ d ob,L' d ob→L d ob):Yield E ops B L' o T x:=by
 rcases h with h|⟨g1,g2,g3,g4,g5⟩|⟨h1,u,d,e,c,l,h2,h3,h4,h5⟩|⟨h1,t,d,y,p,s,h2,h3,h4,h5,h6⟩
 ·exact .inl h
 ·refine .inr (.inl ⟨g1,g2,g3,g4,?_⟩)
  rcases g5 with g5|g5|⟨ob,g5,g6,g7⟩
  ·exact .inl g5
  ·exact .inr (.inl g5)
  ·exact .inr (.inr ⟨ob,g5,fun ob' h=>g6 ob' (hL2 _ _ h),g7⟩)
 ·exact .inr (.inr (.inl ⟨h1,u,d,e,c,l,h2,h3,hL _ _ h4,h5⟩))
 ·exact .inr (.inr (.inr ⟨h1,t,d,y,p,s,h2,h3,h4,hL _ _ h5,h6⟩))
theorem obs_mem {os:Obs}{d:Nat}{ob:Ob}(h:Obs.get0 os d=some ob):(d,ob) ∈ os:=Obs.get0_mem h

theorem stepA_spec (hp:Par E.C){ops:Array Oper}{o:Oper}{T:List SV}{B os:Obs}{K:St→Obs→Option Out}{r:Out}(h:stepA E ops o { T:=T,B:=B } os K=some r) :
  (∃ s l,linOf ops o=none∧opQ E o { T:=T,B:=B } pairK=some ([s],l)∧(∀ t,o.op=.alloc t→zeroRows E (o.dst.getD 0) 0 (fieldsZ E.P t)=[])∧(l=[]∨(∃ d ob,l=[(d,ob)]∧o.dst=some d∧laysOp o=true∧d < lowB)∨∃ ob,l=[(HL,ob)]∧(∀ ob',(HL,ob') ∉ os)∧Obs.hasH B=true)∧K { T:=putT T o.dst s,B:=B } (l++os)=some r) ∨
  (∃ u d e c l,linOf ops o=some d∧convA E o { T:=T,B:=B }=some (.own u d)∧(d,.row e (c :: l)) ∈ os∧K { T:=putT T o.dst (.val u (.list (c :: l))),B:=B } os=some r) ∨
  (∃ t d y p s,o.op=.store t (.tmp d) y∧o.dst=none∧T.getD d .dead=.ptr d []∧(d,.box t s) ∈ os∧(Ob.box t s).putAt E.P t (({ T:=T,B:=B }:St).get E.P t y) []=some p∧d < lowB∧K { T:=T,B:=B } ((d,p) :: os)=some r):=by
 unfold stepA at h
 cases hlin:linOf ops o with
 | some a =>
  rw [hlin] at h
  simp only at h
  split at h
  ·rename_i u d hcv
   obtain ⟨hb,h⟩:=cond_some h
   have hb:d=a:=by simpa using hb
   subst hb
   split at h
   ·rename_i e c l hg
    simp only [put_eq] at h
    exact .inr (.inl ⟨u,d,e,c,l,rfl,hcv,obs_mem hg,h⟩)
   ·cases h
  ·cases h
 | none =>
 rw [hlin] at h
 simp only at h
 cases hc:(isE E o { T:=T,B:=B } || !bareAlloc E o) with
 | true =>
  rw [hc,cond_true] at h
  cases hst:stA E o { T:=T,B:=B } os with
  | none=>rw [hst] at h;cases h
  | some yy =>
   rw [hst] at h
   simp only at h
   unfold stA at hst
   split at hst
   ·rename_i t d y hop
    split at hst
    ·rename_i d' u s hTd hgd
     obtain ⟨hb,hst⟩:=cond_some hst
     simp only [Bool.and_eq_true,beq_iff_eq,Option.isNone_iff_eq_none] at hb
     obtain ⟨⟨⟨rfl,rfl⟩,hdst⟩,hdlo⟩:=hb
     split at hst
     ·rename_i p hp
      injection hst with hst
      subst hst
      exact .inr (.inr ⟨_,_,y,p,s,hop,hdst,hTd,obs_mem hgd,hp,by simpa using hdlo,h⟩)
     ·cases hst
    ·cases hst
   ·cases hst
 | false =>
 rw [hc,cond_false] at h
 refine .inl ?_
 simp only [Bool.or_eq_false_iff,Bool.not_eq_false'] at hc
 rw [opQ_param E hp] at h
 cases hq:opQ E o { T:=T,B:=B } pairK with
 | none=>rw [hq] at h;cases h
 | some y =>
  rw [hq] at h
  simp only [Option.bind_some] at h
  obtain ⟨y1,y2⟩:=y
  have hal:∀ t,o.op=.alloc t→zeroRows E (o.dst.getD 0) 0 (fieldsZ E.P t)=[]:=by
   unfold bareAlloc at hc
   intro t ht
   have:=hc.2
   rw [ht] at this
   simpa using this
  match y1 with
  | []=>cases h
  | _ :: _ :: _=>cases h
  | [s] =>
   simp only [unpair] at h
   match y2 with
   | [] =>
    simp only [put_eq] at h
    exact ⟨s,[],rfl,rfl,hal,.inl rfl,h⟩
   | [(d,ob)] =>
    simp only [put_eq] at h
    cases hdl:d==HL with
    | true =>
     rw [hdl,cond_true] at h
     obtain ⟨hb,h⟩:=cond_some h
     rw [Bool.and_eq_true] at hb
     have hdl:d=HL:=by simpa using hdl
     subst hdl
     refine ⟨s,[(HL,ob)],rfl,rfl,hal,.inr (.inr ⟨ob,rfl,fun ob' hm=>?_,hb.1⟩),h⟩
     have:=List.all_eq_true.1 hb.2 _ hm
     simp at this
    | false =>
     rw [hdl,cond_false] at h
     obtain ⟨hb,h⟩:=cond_some h
     simp only [Bool.and_eq_true,beq_iff_eq] at hb
     exact ⟨s,[(d,ob)],rfl,rfl,hal,.inr (.inl ⟨d,ob,rfl,hb.1.1,hb.1.2,by simpa using hb.2⟩),h⟩
   | _ :: _ :: _=>cases h

/-- What has been laid aside. -/
def Laid (tr:List (SV × Obs))(os:Obs)(j:Nat)(d:Nat)(ob:Ob):Prop:=(∃ (k:Nat)(y:SV × Obs),k < j∧tr[k]?=some y∧(d,ob) ∈ y.2)∨(d,ob) ∈ os
theorem Laid.cons {tr:List (SV × Obs)}{x:SV × Obs}{os:Obs}{j d:Nat}{ob:Ob}(h:Laid tr (x.2++os) j d ob):Laid (x :: tr) os (j+1) d ob:=by
 rcases h with ⟨k,y,h1,h2,h3⟩|h
 ·exact .inl ⟨k+1,y,by omega,by simpa using h2,h3⟩
 ·rcases List.mem_append.1 h with h|h
  ·exact .inl ⟨0,x,by omega,rfl,h⟩
  ·exact .inr h
theorem Laid.back {tr:List (SV × Obs)}{x:SV × Obs}{os:Obs}{j d:Nat}{ob:Ob}(h:Laid (x :: tr) os (j+1) d ob):Laid tr (x.2++os) j d ob:=by
 rcases h with ⟨k,y,h1,h2,h3⟩|h
 ·cases k with
  | zero =>
   replace h2:x=y:=by simpa using h2
   subst h2
   exact .inr (List.mem_append_left _ h3)
  | succ k=>exact .inl ⟨k,y,by omega,by simpa using h2,h3⟩
 ·exact .inr (List.mem_append_right _ h)
/-- The run in the order of the text, step by step. -/
theorem execA_trace (hp:Par E.C){ops:Array Oper}{B:Obs}{K:St→Obs→Option Out}{r:Out}:∀ (l:List Oper)(T:List SV)(os:Obs),execA E ops (l.filter fun o=>!skipOp ops o) K { T:=T,B:=B } os=some r →
  ∃ tr:List (SV × Obs),tr.length=l.length∧(∀ (j:Nat)(o:Oper)(x:SV × Obs),l[j]?=some o→tr[j]?=some x→(skipOp ops o=true→x.2=[])∧(skipOp ops o=false→Yield E ops B (Laid tr os j) o (putAll ops l tr j T) x)) ∧
   K { T:=putAll ops l tr l.length T,B:=B } (((tr.map (·.2)).reverse).flatten++os)=some r
 | [],T,os,h=>⟨[],rfl,fun j o x hj=>by simp at hj,h⟩
 | o :: l,T,os,h=>by
  have main:∀ (x:SV × Obs),((skipOp ops o=true→x.2=[])∧(skipOp ops o=false→Yield E ops B (fun d ob=>(d,ob) ∈ os) o T x))→execA E ops (l.filter fun o=>!skipOp ops o) K { T:=putT T (dstA ops o) x.1,B:=B } (x.2++os)=some r →
    ∃ tr:List (SV × Obs),tr.length=(o :: l).length∧(∀ (j:Nat)(o2:Oper)(x:SV × Obs),(o :: l)[j]?=some o2→tr[j]?=some x→(skipOp ops o2=true→x.2=[])∧(skipOp ops o2=false→Yield E ops B (Laid tr os j) o2 (putAll ops (o :: l) tr j T) x)) ∧
     K { T:=putAll ops (o :: l) tr (o :: l).length T,B:=B } (((tr.map (·.2)).reverse).flatten++os)=some r:=by
   intro x hx h
   obtain ⟨tr,t1,t2,t3⟩:=execA_trace hp l _ _ h
   refine ⟨x :: tr,by simp [t1],fun j o2 y hj hy=>?_,?_⟩
   ·cases j with
    | zero =>
     replace hj:o=o2:=by simpa using hj
     replace hy:x=y:=by simpa using hy
     subst hj;subst hy
     exact ⟨hx.1,fun h=>(hx.2 h).more (fun d ob h=>.inr h) fun d ob h=>by
      rcases h with ⟨k,y,h1,_⟩|h
      ·omega
      ·exact h⟩
    | succ j =>
     obtain ⟨u1,u2⟩:=t2 j o2 y (by simpa using hj) (by simpa using hy)
     exact ⟨u1,fun h=>(u2 h).more (fun d ob h=>h.cons) fun d ob h=>h.back⟩
   ·have:((x :: tr).map (·.2)).reverse.flatten++os=((tr.map (·.2)).reverse).flatten++(x.2++os):=by simp
    rw [this]
    exact t3
  cases hlate:skipOp ops o with
  | true =>
   rw [List.filter_cons_of_neg (by simp [hlate])] at h
   refine main (.undef,[]) ⟨fun _=>rfl,fun h=>(by rw [hlate] at h;cases h)⟩ ?_
   have:dstA ops o=none:=by unfold dstA;rw [hlate];rfl
   rw [this]
   exact h
  | false =>
  rw [List.filter_cons_of_pos (by simp [hlate])] at h
  have hdst:dstA ops o=o.dst:=by unfold dstA;rw [hlate];rfl
  rw [hdst] at main
  replace main:=fun (x:SV × Obs)(h:Yield E ops B (fun d ob=>(d,ob) ∈ os) o T x)=>main x ⟨fun h=>(by rw [hlate] at h;cases h),fun _=>h⟩
  unfold execA at h
  cases hg:o.guard with
  | none =>
   rw [hg] at h
   simp only at h
   rcases stepA_spec hp h with ⟨s,l',h0,h1,h2,h3,h4⟩|⟨u,d,e,c,l2,h1,h2,h3,h4⟩|⟨t,d,y,p,s,h1,h2,h3,h4,h5,hdlo,h6⟩
   ·exact main (s,l') (.inr (.inl ⟨.inl hg,h0,h1,h2,h3⟩)) h4
   ·exact main (.val u (.list (c :: l2)),[]) (.inr (.inr (.inl ⟨.inl hg,u,d,e,c,l2,h1,h2,h3,rfl⟩))) h4
   ·exact main (.undef,[(d,p)]) (.inr (.inr (.inr ⟨.inl hg,t,d,y,p,s,h1,h2,h3,h4,h5,rfl,hdlo⟩))) (by rw [h2];exact h6)
  | some gw =>
   obtain ⟨j,want⟩:=gw
   rw [hg] at h
   simp only at h
   cases hd:(ops[j]?).bind (·.dst) with
   | none=>rw [hd] at h;cases h
   | some dj =>
    rw [hd] at h
    simp only at h
    cases hs:T.getD dj .dead with
    | bool b =>
     rw [hs] at h
     simp only at h
     have e1:({ T:=T,B:=B }:St).setT dj (.bool b)={ T:=T,B:=B }:=by
      show ({ T:=T.set dj (.bool b),B:=B }:St)=_
      rw [set_same hs (by simp)]
     cases hb:b==want with
     | true =>
      have hbw:want=b:=(beq_iff_eq.1 hb).symm
      rw [hb,cond_true,hbw,e1] at h
      rcases stepA_spec hp h with ⟨s,l',h0,h1,h2,h3,h4⟩|⟨u,d,e,c,l2,h1,h2,h3,h4⟩|⟨t,d,y,p,s,h1,h2,h3,h4,h5,hdlo,h6⟩
      ·exact main (s,l') (.inr (.inl ⟨.inr ⟨j,want,dj,b,hg,hd,hs,hb⟩,h0,h1,h2,h3⟩)) h4
      ·exact main (.val u (.list (c :: l2)),[]) (.inr (.inr (.inl ⟨.inr ⟨j,want,dj,b,hg,hd,hs,hb⟩,u,d,e,c,l2,h1,h2,h3,rfl⟩))) h4
      ·exact main (.undef,[(d,p)]) (.inr (.inr (.inr ⟨.inr ⟨j,want,dj,b,hg,hd,hs,hb⟩,t,d,y,p,s,h1,h2,h3,h4,h5,rfl,hdlo⟩))) (by rw [h2];exact h6)
     | false =>
      have hbw:(!want)=b:=by cases b <;> cases want <;> first|rfl|(simp at hb)
      rw [hb,cond_false,hbw,e1,put_eq] at h
      exact main (.undef,[]) (.inl ⟨j,want,dj,hg,hd,.inr ⟨b,hs,hb⟩,rfl⟩) h
    | undef =>
     rw [hs] at h
     simp only [put_eq] at h
     exact main (.undef,[]) (.inl ⟨j,want,dj,hg,hd,.inl hs,rfl⟩) h
    | _=>rw [hs] at h;cases h

end
end Go.X
/- The interpreter X, part 38: regions whose order is drawn, in whatever order. -/
set_option linter.unusedVariables false
set_option linter.unusedSimpArgs false
namespace Go.X
open Go
section
variable {E : Env} {w0 : World} {F : Foot} {Mo : Nat → Prop}

/-- What is known of a region (dOk). -/
structure Drawn (ops:Array Oper):Prop where
 nosel:Region.noSelect ops=true
 lt:∀ (j:Nat)(o:Oper),ops[j]?=some o→∀ e ∈ o.after,Region.binds .any e=true→e.on < j
 ap:∀ (i j:Nat)(x y:Oper),i < j→ops[i]?=some x→ops[j]?=some y→skipOp ops x=false→skipOp ops y=false→Bef ops j i∨x.apart ops y=true
 head:∀ (j:Nat),j < nHead ops→lateAt ops j=true∧tailAt ops j=false∧∀ i,j < i→i < ops.size→Bef ops i j
 kinds:∀ (j:Nat),nHead ops≤j→j < ops.size→lateAt ops j=true→tailAt ops j=true
 tails:TailsAll ops (ops.toList.filter fun o=>tailOp ops o&&!headOp ops o) ((List.range ops.size).filter fun k=>tailAt ops k)
 ahead:∀ (j:Nat)(o:Oper),ops[j]?=some o→skipOp ops o=false→∀ e ∈ o.after,Region.binds .any e=true→e.on < nHead ops∨lateAt ops e.on=false
 free:∀ j,j < ops.size→lateAt ops j=false→(∀ i,i < ops.size→tailAt ops i=true→Bef ops i j)∨(freeP ops j=true∧heldFree ops j=true)∨heldAt ops j=true
 held:∀ kx ky,heldK ops=some (kx,ky)→∃ x y ks',ops[kx]?=some x∧ops[ky]?=some y∧isLoadT x=true∧isAppT y=true∧skipOp ops x=false∧x.apart ops y=true∧((List.range ops.size).filter fun k=>tailAt ops k)=ky :: ks' ∧
  (∀ j ∈ ks',Bef ops j kx∧Bef ops j ky)∧(∀ (j:Nat)(o:Oper),ops[j]?=some o→skipOp ops o=false→∀ e ∈ o.after,Region.binds .any e=true→e.on≠kx) ∧
  loadsT (ops.toList.filter fun o=>tailOp ops o&&!headOp ops o)=none∧swapT ops (ops.toList.filter fun o=>tailOp ops o&&!headOp ops o)=none
 nd:(ops.toList.filterMap (dstA ops)).Nodup
 fresh:∀ (j:Nat)(o:Oper),ops[j]?=some o→skipOp ops o=false→∀ t d z,o.op=.store t (.tmp d) z→o.dst=none∧∀ (k:Nat)(y:Oper),ops[k]?=some y→k≠j→d ∉ y.looksAt ops
 lin:∀ (j:Nat)(o:Oper)(d:Nat),ops[j]?=some o→linOf ops o=some d→∀ (k:Nat)(y:Oper),ops[k]?=some y→k≠j→d ∉ y.looksAt ops
 lo:∀ (j:Nat)(o:Oper),ops[j]?=some o→skipOp ops o=false→o.dst.getD 0 < lowB∧(laysOp o=true→∃ d,o.dst=some d)

theorem lateAt_of {ops:Array Oper}{j:Nat}{o:Oper}(h:ops[j]?=some o):lateAt ops j=skipOp ops o:=by
 unfold lateAt;rw [h]
theorem tailAt_of {ops:Array Oper}{j:Nat}{o:Oper}(h:ops[j]?=some o):tailAt ops j=(tailOp ops o&&!headOp ops o):=by
 unfold tailAt;rw [h]
theorem tailAt_late {ops:Array Oper}{j:Nat}(h:lateAt ops j=false):tailAt ops j=false:=by
 unfold lateAt at h
 unfold tailAt
 cases hj:ops[j]? with
 | none=>rfl
 | some o =>
  rw [hj] at h
  have h:(tailOp ops o || headOp ops o)=false:=h
  rw [Bool.or_eq_false_iff] at h
  simp [h.1]
theorem dstA_of {ops:Array Oper}{o:Oper}(h:skipOp ops o=false):dstA ops o=o.dst:=by unfold dstA;rw [h];rfl
theorem dstA_some {ops:Array Oper}{o:Oper}{d:Nat}(h:dstA ops o=some d):skipOp ops o=false∧o.dst=some d:=by
 unfold dstA at h
 cases hl:skipOp ops o with
 | true=>rw [hl] at h;cases h
 | false=>rw [hl] at h;exact ⟨rfl,h⟩

theorem drawn_of {ops:Array Oper}(h:dOk ops=true):Drawn ops:=by
 unfold dOk at h
 simp only [Bool.and_eq_true,List.all_eq_true,List.mem_range] at h
 obtain ⟨⟨⟨⟨⟨⟨⟨⟨⟨⟨⟨h0,h1⟩,h2⟩,h3⟩,hk⟩,hT⟩,h4⟩,hheld⟩,h7⟩,h8⟩,h5⟩,h6⟩:=h
 refine ⟨h0,fun j o ho e he hb=>?_,fun i j x y hij hx hy hlx hly=>?_,fun j hj=>?_,fun j hm hj hl=>?_,tailsAll_spec _ _ hT,fun j o ho hl e he hb=>?_,fun j hj hl=>?_,fun kx ky hK=>?_,nodupB_iff h5,fun j o ho hl t d z hop=>?_,fun j o d ho hl k y hy hkj hd=>?_,fun j o ho hl=>?_⟩
 ·have:=h1 j (Array.getElem?_eq_some_iff.1 ho).1
  rw [ho] at this
  simp only [List.all_eq_true,Bool.or_eq_true,Bool.not_eq_true'] at this
  rcases this e (by simpa using he) with h|h
  ·rw [hb] at h;cases h
  ·simpa using h
 ·have:=h2 j (Array.getElem?_eq_some_iff.1 hy).1
  rw [lateAt_of hy,hly] at this
  simp only [Bool.false_or,Bool.or_eq_true,List.all_eq_true,List.mem_range,Bool.false_eq_true,false_or] at this
  have:=this i hij
  rw [lateAt_of hx,hlx,hx,hy] at this
  rcases this with (h|h)|h
  ·cases h
  ·exact .inl (before_spec ops h)
  ·exact .inr h
 ·have hjs:j < ops.size:=by
   have hle:nHead ops≤ops.toList.length:=by
    unfold nHead
    have:=(List.dropWhile_sublist (l:=ops.toList.reverse) (fun o=>!cloOp o)).length_le
    simpa using this
   rw [Array.length_toList] at hle
   omega
  have:=h3 j hjs
  simp only [Bool.or_eq_true,Bool.and_eq_true,Bool.not_eq_true',List.all_eq_true,List.mem_range] at this
  rcases this with h|⟨⟨q1,q2⟩,q3⟩
  ·have h:nHead ops≤j:=by simpa using h
   omega
  ·refine ⟨q1,q2,fun i hji hi=>?_⟩
   rcases q3 i hi with h|h
   ·have h:i≤j:=by simpa using h
    omega
   ·exact before_spec ops h
 ·have:=hk j hj
  rw [hl] at this
  simp only [Bool.or_eq_true,Bool.not_true,Bool.false_eq_true,or_false] at this
  rcases this with h|h
  ·have h:j < nHead ops:=by simpa using h
   omega
  ·exact h
 ·have:=h4 j (Array.getElem?_eq_some_iff.1 ho).1
  rw [lateAt_of ho,hl,ho] at this
  simp only [Bool.false_or,Option.map_some,Option.getD_some,Bool.and_eq_true,List.all_eq_true,Bool.or_eq_true,Bool.not_eq_true',Bool.false_eq_true,false_or] at this
  rcases this.1 e (by simpa using he) with h|h|h
  ·rw [hb] at h;cases h
  ·exact .inl (by simpa using h)
  ·exact .inr h
 ·have:=h4 j hj
  rw [hl] at this
  simp only [Bool.false_or,Bool.and_eq_true,Bool.or_eq_true,Bool.false_eq_true,false_or] at this
  rcases this.2 with (h|h)|h
  ·refine .inl fun i hi hli=>?_
   unfold fastB at h
   rw [List.all_eq_true] at h
   have:=h i (List.mem_range.2 hi)
   rw [hli] at this
   exact before_spec ops (by simpa using this)
  ·exact .inr (.inl h)
  ·exact .inr (.inr h)
 ·have hK':=hK
  unfold heldB at hheld
  rw [hK] at hheld
  simp only [Bool.and_eq_true] at hheld
  obtain ⟨g1,g2,g3,g4,g5⟩:=hheld
  unfold heldK at hK
  obtain ⟨_,hK⟩:=cond_none hK
  cases hf:(List.range ops.size).find? (tailAt ops) with
  | none=>rw [hf] at hK;cases hK
  | some ky' =>
   rw [hf] at hK
   simp only at hK
   cases hoy:ops[ky']? with
   | none=>rw [hoy] at hK;cases hK
   | some y =>
    rw [hoy] at hK
    simp only at hK
    obtain ⟨hay,hK⟩:=cond_some hK
    rw [Option.map_eq_some_iff] at hK
    obtain ⟨kx',hfx,hK⟩:=hK
    injection hK with e1 e2
    subst e1;subst e2
    have hx:=List.find?_some hfx
    cases hox:ops[kx']? with
    | none=>rw [hox] at hx;cases hx
    | some x =>
     rw [hox] at hx
     simp only [Bool.and_eq_true,Bool.not_eq_true'] at hx
     rw [hox,hoy] at g1
     split at g2
     ·rename_i k ks' hks
      rw [Bool.and_eq_true,beq_iff_eq] at g2
      obtain ⟨rfl,g2⟩:=g2
      refine ⟨x,y,ks',rfl,hoy,hx.1,hay,hx.2.1,g1,hks,fun j hj=>?_,fun j o ho hl e he hb=>?_,by simpa using g4,by simpa using g5⟩
      ·have:=List.all_eq_true.1 g2 j hj
       rw [Bool.and_eq_true] at this
       exact ⟨before_spec ops this.1,before_spec ops this.2⟩
      ·have:=List.all_eq_true.1 g3 j (List.mem_range.2 (Array.getElem?_eq_some_iff.1 ho).1)
       rw [lateAt_of ho,hl,ho] at this
       simp only [Bool.false_or,Option.map_some,Option.getD_some,Bool.not_eq_true',List.any_eq_false,Bool.and_eq_true,beq_iff_eq,not_and] at this
       exact this e (by simpa using he) hb
     ·cases g2
 ·have:=h7 j (Array.getElem?_eq_some_iff.1 ho).1
  rw [lateAt_of ho,hl] at this
  simp only [Bool.false_or,Bool.or_eq_true,Bool.false_eq_true,false_or] at this
  unfold freshOk at this
  rw [ho] at this
  simp only [hop,Bool.and_eq_true,Option.isNone_iff_eq_none,List.all_eq_true,List.mem_range,Bool.or_eq_true,beq_iff_eq] at this
  refine ⟨this.1,fun k y hy hkj hd=>?_⟩
  rcases this.2 k (Array.getElem?_eq_some_iff.1 hy).1 with h|h
  ·exact hkj h
  ·rw [hy] at h
   simp at h
   exact h hd
 ·have:=h8 j (Array.getElem?_eq_some_iff.1 ho).1
  unfold linOk at this
  rw [ho] at this
  simp only [hl,List.all_eq_true,List.mem_range,Bool.or_eq_true,beq_iff_eq] at this
  rcases this k (Array.getElem?_eq_some_iff.1 hy).1 with h|h
  ·exact hkj h
  ·rw [hy] at h
   simp at h
   exact h hd
 ·have:=h6 o (by simpa using Array.mem_of_getElem? ho)
  rw [hl] at this
  simp only [Bool.false_or,Bool.and_eq_true,Bool.or_eq_true,Bool.not_eq_true',Bool.false_eq_true,false_or] at this
  refine ⟨by simpa using this.1,fun hl=>?_⟩
  rcases this.2 with h|h
  ·rw [hl] at h;cases h
  ·exact Option.isSome_iff_exists.1 h

/-- A row whose bytes have gone on as data. -/
def Gone (ops:Array Oper)(listed:Array Bool)(d:Nat):Prop:=∃ (j:Nat)(o:Oper),ops[j]?=some o∧linOf ops o=some d∧listed.getD j false=true
/-- What must not speak of the rows that go on as data. -/
structure Clean (ops:Array Oper)(tr:List (SV × Obs))(T0:List SV)(B0:Obs):Prop where
 t0:∀ (j:Nat)(o:Oper)(d:Nat),ops[j]?=some o→linOf ops o=some d→∀ (i:Nat)(s:SV),T0[i]?=some s→s.has d=false
 t:∀ (j:Nat)(o:Oper)(d:Nat),ops[j]?=some o→linOf ops o=some d→∀ (k:Nat)(y:Oper)(x:SV × Obs)(i:Nat),ops.toList[k]?=some y→tr[k]?=some x→dstA ops y=some i→i < T0.length→i≠d→x.1.has d=false
 b0:∀ (j:Nat)(o:Oper)(d:Nat),ops[j]?=some o→linOf ops o=some d→∀ (e:Nat)(ob:Ob),Obs.get B0 e=some ob→ob.has d=false
 b:∀ (j:Nat)(o:Oper)(d:Nat),ops[j]?=some o→linOf ops o=some d→∀ (k:Nat)(x:SV × Obs)(e:Nat)(ob:Ob),tr[k]?=some x→(e,ob) ∈ x.2→ob.has d=false
/-- What the heap holds when some operations have been done. -/
def HH (tr:List (SV × Obs))(B0:Obs)(listed:Array Bool)(B:Obs):Prop :=
 Obs.hasH B=Obs.hasH B0∧((Obs.hps B=Obs.hps B0∧∀ (k:Nat)(x:SV × Obs) ob,tr[k]?=some x→listed.getD k false=true→(HL,ob) ∉ x.2) ∨
  ∃ (k:Nat)(x:SV × Obs)(ob:Ob),tr[k]?=some x∧listed.getD k false=true∧x.2=[(HL,ob)]∧Obs.hps B=Obs.hps B0++[ob.he])
theorem HH.keep {tr:List (SV × Obs)}{B0 B B':Obs}{listed:Array Bool}(h:HH tr B0 listed B){j:Nat}(hj:j < listed.size){x:SV × Obs}(hx:tr[j]?=some x)(hno:∀ ob,(HL,ob) ∉ x.2)(hp:Obs.hps B'=Obs.hps B)(hh:Obs.hasH B'=Obs.hasH B) :
  HH tr B0 (listed.setIfInBounds j true) B':=by
 refine ⟨hh.trans h.1,?_⟩
 rcases h.2 with ⟨h1,h2⟩|⟨k,y,ob,h1,h2,h3,h4⟩
 ·refine .inl ⟨hp.trans h1,fun k y ob hk hl=>?_⟩
  rw [getD_set _ _ _ _ hj] at hl
  by_cases hjk:j=k
  ·subst hjk
   rw [hx] at hk;injection hk with hk;subst hk
   exact hno ob
  ·rw [if_neg hjk] at hl
   exact h2 k y ob hk hl
 ·refine .inr ⟨k,y,ob,h1,?_,h3,hp.trans h4⟩
  rw [getD_set _ _ _ _ hj]
  split
  ·rfl
  ·exact h2
theorem hasH_ins {d:Nat}(hd:d < HL)(o:Ob)(B:Obs):Obs.hasH (Obs.ins d o B)=Obs.hasH B:=by
 unfold Obs.hasH;rw [Obs.get0_ins,if_neg (by omega)]
theorem hasH_del {d:Nat}(hd:d < HL)(B:Obs):Obs.hasH (Obs.del d B)=Obs.hasH B:=by
 unfold Obs.hasH;rw [Obs.get0_del,if_neg (by omega)]
theorem hasH_drop (d:Nat)(p:PV)(B:Obs):Obs.hasH (Obs.drop d p B)=Obs.hasH B:=by
 unfold Obs.hasH
 rw [Obs.get0_drop]
 cases Obs.get0 B HL with
 | none=>rfl
 | some o=>cases o <;> rfl
theorem hasH_setH (l:List HE)(B:Obs):Obs.hasH (Obs.setH l B)=Obs.hasH B∨Obs.hasH (Obs.setH l B)=true:=by
 cases h:Obs.hasH (Obs.setH l B) with
 | true=>exact .inr rfl
 | false =>
  left
  cases h2:Obs.hasH B with
  | false=>rfl
  | true =>
   unfold Obs.hasH at h
   rw [Obs.get0_setH,if_pos rfl,hp_get h2] at h
   cases h
/-- Objects of two that are alike but for what comes behind in the heap. -/
theorem heap_pref {B B0:Obs}(h1:∀ d x,d < HL→Obs.get B0 d=some x→Obs.get B d=some x){l:List HE}(h2:Obs.hps B=Obs.hps B0++l):∀ d x,d≠HL→Obs.get B0 d=some x→Obs.get B d=some x:=by
 intro d x hd hx
 by_cases hl:d < HL
 ·exact h1 d x hl hx
 ·have hx':=hx
  rw [Obs.get_hi hl] at hx'
  rcases hiOf_some hx' with ⟨h,_⟩|⟨i,y,rfl,h3,h4⟩
  ·exact absurd h hd
  ·rw [get_heap] at hx ⊢
   rw [h2,List.getElem?_append_left (get_lt (show (Obs.hps B0)[i]?=some y from h3))]
   exact hx
/-- The state when some operations have been done. -/
structure DI (E:Env)(w0:World)(F:Foot)(Mo:Nat→Prop)(ops:Array Oper)(tr:List (SV × Obs))(T0:List SV)(B0:Obs)(listed:Array Bool)(a:Act)(w:World):Prop where
 closed:Closed ops listed
 size:listed.size=ops.size
 onlyA:∀ j,tailAt ops j=true→listed.getD j false=false
 heads:∀ j,j < nHead ops→listed.getD j false=true
 defers:a.defers=[]
 ex:∃ T B β,T.length=T0.length∧(∀ i,(∀ (k:Nat)(o:Oper),ops.toList[k]?=some o→listed.getD k false=true→dstA ops o≠some i)→T[i]?=T0[i]?) ∧
  (∀ (k:Nat)(o:Oper)(x:SV × Obs)(i:Nat),ops.toList[k]?=some o→tr[k]?=some x→listed.getD k false=true→dstA ops o=some i→i < T0.length→¬ Gone ops listed i→T[i]?=some x.1) ∧
  (∀ d x,d < HL→Obs.get B0 d=some x→Obs.get B d=some x)∧(∀ (k:Nat)(x:SV × Obs) d ob,d < HL→tr[k]?=some x→listed.getD k false=true→(d,ob) ∈ x.2→¬ Gone ops listed d→(∀ (k':Nat)(x':SV × Obs),k < k'→tr[k']?=some x'→listed.getD k' false=true→∀ ob',(d,ob') ∉ x'.2)→Obs.get B d=some ob) ∧
  (∀ d ob,d < HL→Obs.get B d=some ob→Obs.get B0 d=some ob∨∃ (k:Nat)(x:SV × Obs),tr[k]?=some x∧listed.getD k false=true∧(d,ob) ∈ x.2∧¬ Gone ops listed d) ∧
  HH tr B0 listed B ∧
  Rel E.P Mo β T B a.tmps.toList w∧Kp w0 F β B w

theorem lin_tail {ops:Array Oper}{o:Oper}{d:Nat}(h:linOf ops o=some d):skipOp ops o=false∧o.guard=none∧(∃ s t,o.op=.convert s t (.tmp d)):=by
 unfold linOf at h
 split at h
 ·rename_i s t a hop
  obtain ⟨hc,h⟩:=cond_some h
  injection h with h;subst h
  simp only [Bool.and_eq_true,Bool.not_eq_true',Option.isNone_iff_eq_none] at hc
  exact ⟨hc.2,hc.1.1.2,s,t,hop⟩
 ·cases h
mutual
theorem SV.drop_id (d:Nat)(p:PV):∀ s:SV,s.has d=false→s.drop d p=s
 | .own t e,h=>by
  have h:(e==d)=false:=h
  show (bif e==d then SV.val t p else .own t e)=_
  rw [h];rfl
 | .mp t e,h=>by
  have h:(e==d)=false:=h
  show (bif e==d then SV.dead else .mp t e)=_
  rw [h];rfl
 | .ptr e q,h=>by
  have h:(e==d)=false:=h
  show (bif e==d then SV.dead else .ptr e q)=_
  rw [h];rfl
 | .agg t l,h=>by show SV.agg t (SV.drops d p l)=_;rw [SV.drops_id d p l h]
 | .fn f l,h=>by show SV.fn f (SV.drops d p l)=_;rw [SV.drops_id d p l h]
 | .tup l,h=>by show SV.tup (SV.drops d p l)=_;rw [SV.drops_id d p l h]
 | .int _ _,_=>rfl
 | .bool _,_=>rfl
 | .str _,_=>rfl
 | .flt _ _,_=>rfl
 | .val _ _,_=>rfl
 | .fro _ _,_=>rfl
 | .hval _ _,_=>rfl
 | .hptr _ _ _,_=>rfl
 | .nils,_=>rfl
 | .nilp,_=>rfl
 | .nili,_=>rfl
 | .undef,_=>rfl
 | .dead,_=>rfl
theorem SV.drops_id (d:Nat)(p:PV):∀ l:List SV,SV.hass d l=false→SV.drops d p l=l
 | [],_=>rfl
 | s :: l,h=>by
  have h:(s.has d || SV.hass d l)=false:=h
  rw [Bool.or_eq_false_iff] at h
  show SV.drop d p s :: SV.drops d p l=_
  rw [SV.drop_id d p s h.1,SV.drops_id d p l h.2]
end
theorem drops_get (d:Nat)(p:PV):∀ (T:List SV)(i:Nat),(SV.drops d p T)[i]?=(T[i]?).map (SV.drop d p)
 | [],_=>rfl
 | s :: T,0=>rfl
 | s :: T,i+1=>by
  show (SV.drop d p s :: SV.drops d p T)[i+1]?=_
  rw [List.getElem?_cons_succ,List.getElem?_cons_succ];exact drops_get d p T i
theorem drops_len (d:Nat)(p:PV):∀ (T:List SV),(SV.drops d p T).length=T.length
 | []=>rfl
 | s :: T=>by show (SV.drop d p s :: SV.drops d p T).length=_;simp [drops_len d p T]
theorem Ob.drop_id (d:Nat)(p:PV){ob:Ob}(h:ob.has d=false):ob.drop d p=ob:=by
 cases ob with
 | box t s=>show Ob.box t (s.drop d p)=_;rw [SV.drop_id d p s h]
 | row e l=>rfl
 | map e l=>rfl
 | hp _=>rfl
 | hvar _ _=>rfl
 | hrow _ _=>rfl
theorem getD_of_get {T T':List SV}{i:Nat}(h:T[i]?=T'[i]?):T.getD i .dead=T'.getD i .dead:=by
 rw [List.getD_eq_getElem?_getD,List.getD_eq_getElem?_getD,h]

theorem looksAt_op {ops:Array Oper}{o:Oper}{i:Nat}(h:Operand.tmp i ∈ o.op.operands):i ∈ o.looksAt ops:=by
 unfold Oper.looksAt
 refine List.mem_append_left _ (List.mem_filterMap.2 ⟨.tmp i,by simpa using h,rfl⟩)
theorem looksAt_guard {ops:Array Oper}{o:Oper}{j:Nat}{want:Bool}{d:Nat}(hg:o.guard=some (j,want))(hd:(ops[j]?).bind (·.dst)=some d):d ∈ o.looksAt ops:=by
 unfold Oper.looksAt
 refine List.mem_append_right _ ?_
 rw [hg]
 simp only [hd]
 simp

theorem convA_congr {o:Oper}{T T':List SV}{B B':Obs}{s:SV}(hs:∀ y ∈ o.op.operands,∀ P t,({ T:=T,B:=B }:St).get P t y=({ T:=T',B:=B' }:St).get P t y)(h:convA E o { T:=T,B:=B }=some s):convA E o { T:=T',B:=B' }=some s:=by
 unfold convA at h ⊢
 cases hop:o.op with
 | convert a b x =>
  rw [hop] at h
  simp only at h ⊢
  rw [←hs x (by rw [hop];simp [Op.operands])]
  exact h
 | _=>rw [hop] at h;cases h

theorem convA_own {o:Oper}{st:St}{u d:Nat}(h:convA E o st=some (.own u d)):∃ y,st.get E.P o.type y=.own u d:=by
 unfold convA at h
 split at h
 ·split at h
  ·rename_i hg _
   obtain ⟨_,h⟩:=cond_some h
   injection h with h
   exact ⟨_,by rw [hg,h]⟩
  ·cases h
 ·cases h

theorem putAt_box {P:Program}{u t:TypeId}{s v:SV}{p:Ob}(h:(Ob.box u s).putAt P t v []=some p):∃ v',p=.box u v':=by
 have h:(match v.pvT P t with|some x=>some (Ob.box u (SV.putL P (ofPV P t x) (some x) u s []))|none=>bif v.isHandle P t || v.isWhole t then some (Ob.box u (SV.putL P v none u s [])) else none)=some p:=h
 cases hv:v.pvT P t with
 | some x=>rw [hv] at h;injection h with h;exact ⟨_,h.symm⟩
 | none =>
  rw [hv] at h
  obtain ⟨_,h⟩:=cond_some h
  injection h with h;exact ⟨_,h.symm⟩
/-- Of which operation an object is. -/
theorem owner {ops:Array Oper}{tr:List (SV × Obs)}(htl:tr.length=ops.size){T0:List SV}{B0:Obs}
  (hY:∀ (j:Nat)(o:Oper)(x:SV × Obs),ops.toList[j]?=some o→tr[j]?=some x→(skipOp ops o=true→x.2=[])∧(skipOp ops o=false→Yield E ops B0 (Laid tr [] j) o (putAll ops ops.toList tr j T0) x))
  {k:Nat}{y:SV × Obs}{d:Nat}{ob:Ob}(hdl:d < HL)(h1:tr[k]?=some y)(h2:(d,ob) ∈ y.2) :
  ∃ ok,ops.toList[k]?=some ok∧skipOp ops ok=false∧y.2=[(d,ob)]∧((ok.dst=some d∧laysOp ok=true)∨∃ t z v s k1 y1,ok.op=.store t (.tmp d) z∧ob=.box t v∧k1 < k∧tr[k1]?=some y1∧(d,Ob.box t s) ∈ y1.2):=by
 have hkl:k < ops.toList.length:=by
  have:=get_lt h1
  rw [Array.length_toList];omega
 have hak:=List.getElem?_eq_getElem hkl
 obtain ⟨y1,y2⟩:=hY k _ y hak h1
 cases hkt:skipOp ops ops.toList[k] with
 | true=>rw [y1 hkt] at h2;simp at h2
 | false =>
  rcases y2 hkt with ⟨_,_,_,_,_,_,he⟩|⟨_,_,_,_,he⟩|⟨_,_,_,_,_,_,_,_,_,he⟩|⟨_,t,d',z,p,s,hop,_,_,hl,hput,he,_⟩
  ·subst he;simp at h2
  ·rcases he with he|⟨d',ob',he,he2,he3,_⟩|⟨ob',he,_⟩
   ·rw [he] at h2;simp at h2
   ·rw [he] at h2
    simp only [List.mem_singleton,Prod.mk.injEq] at h2
    obtain ⟨rfl,rfl⟩:=h2
    exact ⟨_,hak,hkt,he,.inl ⟨he2,he3⟩⟩
   ·rw [he] at h2
    simp only [List.mem_singleton,Prod.mk.injEq] at h2
    omega
  ·subst he;simp at h2
  ·subst he
   simp only [List.mem_singleton,Prod.mk.injEq] at h2
   obtain ⟨rfl,rfl⟩:=h2
   obtain ⟨v,hv⟩:=putAt_box hput
   rcases hl with ⟨k1,y1,h3,h4,h5⟩|hl
   ·exact ⟨_,hak,hkt,rfl,.inr ⟨t,z,v,s,k1,y1,hop,hv,h3,h4,h5⟩⟩
   ·simp at hl
/-- What an operation lays into the heap. -/
theorem heap_of {ops:Array Oper}{tr:List (SV × Obs)}(htl:tr.length=ops.size){T0:List SV}{B0:Obs}
  (hY:∀ (j:Nat)(o:Oper)(x:SV × Obs),ops.toList[j]?=some o→tr[j]?=some x→(skipOp ops o=true→x.2=[])∧(skipOp ops o=false→Yield E ops B0 (Laid tr [] j) o (putAll ops ops.toList tr j T0) x))
  {k:Nat}{y:SV × Obs}{ob:Ob}(h1:tr[k]?=some y)(h2:(HL,ob) ∈ y.2):y.2=[(HL,ob)]∧(∀ ob',¬ Laid tr [] k HL ob')∧Obs.hasH B0=true:=by
 have hkl:k < ops.toList.length:=by
  have:=get_lt h1
  rw [Array.length_toList];omega
 have hak:=List.getElem?_eq_getElem hkl
 obtain ⟨y1,y2⟩:=hY k _ y hak h1
 have hlow:∀ {d:Nat}{ob':Ob},d < lowB→y.2=[(d,ob')]→False:=by
  intro d ob' hd he
  rw [he] at h2
  simp only [List.mem_singleton,Prod.mk.injEq] at h2
  have:=lowHL hd;omega
 cases hkt:skipOp ops ops.toList[k] with
 | true=>rw [y1 hkt] at h2;simp at h2
 | false =>
  rcases y2 hkt with ⟨_,_,_,_,_,_,he⟩|⟨_,_,_,_,he⟩|⟨_,_,_,_,_,_,_,_,_,he⟩|⟨_,t,d',z,p,s,hop,_,_,hl,hput,he,hdl⟩
  ·subst he;simp at h2
  ·rcases he with he|⟨d',ob',he,he2,he3,hdl⟩|⟨ob',he,hn,hhas⟩
   ·rw [he] at h2;simp at h2
   ·exact (hlow hdl he).elim
   ·rw [he] at h2
    simp only [List.mem_singleton,Prod.mk.injEq] at h2
    obtain ⟨_,rfl⟩:=h2
    exact ⟨he,hn,hhas⟩
  ·subst he;simp at h2
  ·exact (hlow hdl (by rw [he])).elim
theorem heap_one {ops:Array Oper}{tr:List (SV × Obs)}(htl:tr.length=ops.size){T0:List SV}{B0:Obs}
  (hY:∀ (j:Nat)(o:Oper)(x:SV × Obs),ops.toList[j]?=some o→tr[j]?=some x→(skipOp ops o=true→x.2=[])∧(skipOp ops o=false→Yield E ops B0 (Laid tr [] j) o (putAll ops ops.toList tr j T0) x))
  {k k':Nat}{y y':SV × Obs}{ob ob':Ob}(h1:tr[k]?=some y)(h2:(HL,ob) ∈ y.2)(h3:tr[k']?=some y')(h4:(HL,ob') ∈ y'.2):k=k':=by
 rcases Nat.lt_trichotomy k k' with h|h|h
 ·exact absurd (.inl ⟨k,y,h,h1,h2⟩) ((heap_of htl hY h3 h4).2.1 ob)
 ·exact h
 ·exact absurd (.inl ⟨k',y',h,h3,h4⟩) ((heap_of htl hY h1 h2).2.1 ob')
/-- What is laid, is laid low, or into the heap. -/
theorem trace_low {ops:Array Oper}{tr:List (SV × Obs)}(htl:tr.length=ops.size){T0:List SV}{B0:Obs}
  (hY:∀ (j:Nat)(o:Oper)(x:SV × Obs),ops.toList[j]?=some o→tr[j]?=some x→(skipOp ops o=true→x.2=[])∧(skipOp ops o=false→Yield E ops B0 (Laid tr [] j) o (putAll ops ops.toList tr j T0) x))
  {k:Nat}{y:SV × Obs}{x:Nat × Ob}(h1:tr[k]?=some y)(h2:x ∈ y.2)(hne:x.1≠HL):x.1 < HL:=by
 have hkl:k < ops.toList.length:=by
  have:=get_lt h1
  rw [Array.length_toList];omega
 have hak:=List.getElem?_eq_getElem hkl
 obtain ⟨y1,y2⟩:=hY k _ y hak h1
 cases hkt:skipOp ops ops.toList[k] with
 | true=>rw [y1 hkt] at h2;simp at h2
 | false =>
  rcases y2 hkt with ⟨_,_,_,_,_,_,he⟩|⟨_,_,_,_,he⟩|⟨_,_,_,_,_,_,_,_,_,he⟩|⟨_,t,d',z,p,s,hop,_,_,hl,hput,he,hdl⟩
  ·subst he;simp at h2
  ·rcases he with he|⟨d',ob',he,he2,he3,hdl⟩|⟨ob',he,hn,hhas⟩
   ·rw [he] at h2;simp at h2
   ·rw [he] at h2
    simp only [List.mem_singleton] at h2
    subst h2;exact lowHL hdl
   ·rw [he] at h2
    simp only [List.mem_singleton] at h2
    subst h2;exact absurd rfl hne
  ·subst he;simp at h2
  ·rw [he] at h2
   simp only [List.mem_singleton] at h2
   subst h2;exact lowHL hdl
theorem get_hi_eq {B B':Obs}(h1:Obs.hasH B=Obs.hasH B')(h2:Obs.hps B=Obs.hps B'){d:Nat}(hd:¬ d < HL):Obs.get B d=Obs.get B' d:=by
 rw [Obs.get_hi hd,Obs.get_hi hd]
 cases h:Obs.hasH B with
 | true =>
  rw [hp_get h,hp_get (by rw [←h1];exact h),h2]
 | false =>
  have no:∀ B:Obs,Obs.hasH B=false→hiOf (Obs.get0 B HL) d=none:=by
   intro B hB
   cases hx:hiOf (Obs.get0 B HL) d with
   | none=>rfl
   | some o =>
    exfalso
    rcases hiOf_some hx with ⟨_,l,g,_⟩|⟨i,y,_,g,_⟩
    ·unfold Obs.hasH at hB;rw [g] at hB;cases hB
    ·unfold hpsOf at g
     split at g
     ·rename_i l hl;unfold Obs.hasH at hB;rw [hl] at hB;cases hB
     ·simp at g
  rw [no B h,no B' (by rw [←h1];exact h)]
theorem store_looks {ops:Array Oper}{o:Oper}{t d:Nat}{z:Operand}(h:o.op=.store t (.tmp d) z):d ∈ o.looksAt ops:=looksAt_op (by rw [h];simp [Op.operands])

theorem opQ_makes {o:Oper}{st:St}{s:SV}{os:Obs}(hp:hpOp E o=true)(hm:o.op.makes=true)(h:opQ E o st pairK=some ([s],os)):∃ ob,os=[(HL,ob)]:=by
 unfold opQ at h
 rw [hp,cond_true] at h
 obtain ⟨_,h⟩:=cond_some h
 unfold opH at h
 have fin:∀ {s':SV}{l:Obs},pairK s' l=some ([s],os)→os=l:=by
  intro s' l h
  unfold pairK at h
  injection h with h;injection h with _ h;exact h.symm
 cases hop:o.op with
 | alloc t =>
  rw [hop] at h
  simp only at h
  split at h
  ·obtain ⟨_,h⟩:=cond_some h;exact ⟨_,fin h⟩
  ·cases h
 | box t x =>
  rw [hop] at h
  simp only at h
  split at h
  ·obtain ⟨_,h⟩:=cond_some h;exact ⟨_,fin h⟩
  ·cases h
 | buildSlice t n ps =>
  rw [hop] at h
  simp only at h
  split at h
  ·split at h
   ·obtain ⟨_,h⟩:=cond_some h;exact ⟨_,fin h⟩
   ·cases h
  ·cases h
 | makeSlice t x y =>
  rw [hop] at h
  simp only at h
  split at h
  ·split at h
   ·obtain ⟨_,h⟩:=cond_some h;exact ⟨_,fin h⟩
   ·cases h
  ·cases h
 | _=>rw [hop] at hm;cases hm
theorem DI.step (hL:laidOutB E.P=true)(hC:OracleOk E.P E.C){ops:Array Oper}(D:Drawn ops){tr:List (SV × Obs)}(htl:tr.length=ops.size){T0:List SV}{B0:Obs}(hfree:∀ (j:Nat)(o:Oper),ops[j]?=some o→skipOp ops o=false→laysOp o=true→∀ d,o.dst=some d→Obs.get B0 d=none)
  (hY:∀ (j:Nat)(o:Oper)(x:SV × Obs),ops.toList[j]?=some o→tr[j]?=some x→(skipOp ops o=true→x.2=[])∧(skipOp ops o=false→Yield E ops B0 (Laid tr [] j) o (putAll ops ops.toList tr j T0) x))
  (hclean:Clean ops tr T0 B0){listed:Array Bool}{a:Act}{w:World}(h:DI E w0 F Mo ops tr T0 B0 listed a w){j:Nat}{o:Oper}{x:SV × Obs}(hjo:ops[j]?=some o)(hlate:skipOp ops o=false)(hx:tr[j]?=some x)(hu:listed.getD j false=false)
  (hr:∀ e ∈ o.after,Region.binds .any e=true→listed.getD e.on false=true){Q:Exit→Act→World→Prop}{K:Act→World→Prop}
  (hK:∀ a' w',DI E w0 F Mo ops tr T0 B0 (listed.setIfInBounds j true) a' w'→K a' w'):wpOp E.P ops Q j K a w:=by
 obtain ⟨hcl,hsz,honly,hheads,hdef,T,B,β,ht0,ht1,ht2,hb1,hb2,hb3,hhp,hR,hk⟩:=h
 have hjm:j < ops.size:=(Array.getElem?_eq_some_iff.1 hjo).1
 have hj:ops.toList[j]?=some o:=by rw [Array.getElem?_toList];exact hjo
 have hda:dstA ops o=o.dst:=dstA_of hlate
 have hjs:j < listed.size:=by rw [hsz];exact hjm
 have goneMono:∀ d,Gone ops listed d→Gone ops (listed.setIfInBounds j true) d:=by
  rintro d ⟨j',o',h1,h2,h3⟩
  refine ⟨j',o',h1,h2,?_⟩
  rw [getD_set _ _ _ _ hjs]
  split
  ·rfl
  ·exact h3
 have goneSet:∀ d,Gone ops (listed.setIfInBounds j true) d→Gone ops listed d∨linOf ops o=some d:=by
  rintro d ⟨j',o',h1,h2,h3⟩
  by_cases hjj:j=j'
  ·subst hjj
   rw [hjo] at h1;injection h1 with h1;subst h1
   exact .inr h2
  ·rw [getD_set _ _ _ _ hjs,if_neg hjj] at h3
   exact .inl ⟨j',o',h1,h2,h3⟩
 have notGone:∀ i,i ∈ o.looksAt ops→¬ Gone ops listed i:=by
  rintro i hi ⟨j',o',h1,h2,h3⟩
  rcases Nat.decEq j j' with h|h
  ·exact D.lin j' o' i h1 h2 j o hjo h hi
  ·subst h;rw [hu] at h3;cases h3
 -- the slots that the operation looks at are as in the run
 have hsame:∀ i:Nat,i ∈ o.looksAt ops→T[i]?=(putAll ops ops.toList tr j T0)[i]?:=by
  intro i hi
  by_cases hw:∃ (k:Nat)(y:Oper),ops.toList[k]?=some y∧dstA ops y=some i
  ·obtain ⟨k,y,hk1,hk2⟩:=hw
   have huniq:∀ (k':Nat)(y':Oper),ops.toList[k']?=some y'→dstA ops y'=some i→k'=k:=fun k' y' h1 h2=>filterMap_nodup_ne D.nd h1 hk1 h2 hk2
   have hko:ops[k]?=some y:=by rw [←Array.getElem?_toList];exact hk1
   obtain ⟨hyl,hyd⟩:=dstA_some hk2
   have out:listed.getD k false=false→j≤k→T[i]?=(putAll ops ops.toList tr j T0)[i]?:=by
    intro hul hjk
    rw [ht1 i (fun k' y' h1 h2 h3=>by
     have:=huniq k' y' h1 h3
     subst this
     rw [hul] at h2;cases h2)]
    rw [putAll_out ops ops.toList tr j T0 i (fun k' y' hlt h1 h3=>by
     have:=huniq k' y' h1 h3
     omega)]
   rcases Nat.lt_trichotomy k j with hlt|heq|hgt
   ·rcases D.ap k j y o hlt hko hjo hyl hlate with hbef|hap
    ·have hlk:listed.getD k false=true:=closed_bef hcl hbef fun o' ho' e he hb=>hr e (by rw [hjo] at ho';injection ho' with ho';rw [ho'];exact he) hb
     obtain ⟨xk,hxk⟩:∃ xk,tr[k]?=some xk:=⟨_,List.getElem?_eq_getElem (by have:=get_lt hx;omega)⟩
     by_cases hil:i < T0.length
     ·rw [ht2 k y xk i hk1 hxk hlk hk2 hil (notGone i hi),putAll_in ops ops.toList tr j T0 i k y xk D.nd hk1 hxk hk2 hlt hil]
     ·rw [List.getElem?_eq_none (show T.length≤i by omega),List.getElem?_eq_none (by rw [putAll_len];omega)]
    ·exact absurd hi ((Oper.apart_spec hap).1 i hyd)
   ·subst heq
    exact out hu (Nat.le_refl _)
   ·rcases D.ap j k o y hgt hjo hko hlate hyl with hbef|hap
    ·refine out ?_ (by omega)
     cases hlk:listed.getD k false with
     | false=>rfl
     | true =>
      have:=bef_listed hcl hbef hlk
      rw [hu] at this;cases this
    ·exact absurd hi ((Oper.apart_spec hap).2.2 i hyd)
  ·rw [ht1 i (fun k y h1 _ h3=>hw ⟨k,y,h1,h3⟩),putAll_out ops ops.toList tr j T0 i (fun k y _ h1 h3=>hw ⟨k,y,h1,h3⟩)]
 have hI:Inv E.P w0 F Mo { T:=T,B:=B } a w:=⟨hdef,β,hR,hk⟩
 -- the state behind it
 have fin0:∀ {T':List SV}{B':Obs} {β':Beta}{a':Act}{w':World},a'.defers=[]→T'.length=T0.length →
   (∀ i,(∀ (k:Nat)(o:Oper),ops.toList[k]?=some o→(listed.setIfInBounds j true).getD k false=true→dstA ops o≠some i)→T'[i]?=T0[i]?) →
   (∀ (k:Nat)(o:Oper)(x:SV × Obs)(i:Nat),ops.toList[k]?=some o→tr[k]?=some x→(listed.setIfInBounds j true).getD k false=true→dstA ops o=some i→i < T0.length→¬ Gone ops (listed.setIfInBounds j true) i→T'[i]?=some x.1) →
   Rel E.P Mo β' T' B' a'.tmps.toList w'→Kp w0 F β' B' w'→HH tr B0 (listed.setIfInBounds j true) B'→(∀ d y,d < HL→Obs.get B0 d=some y→Obs.get B' d=some y) →
   (∀ (k:Nat)(y:SV × Obs) d ob,d < HL→tr[k]?=some y→(listed.setIfInBounds j true).getD k false=true→(d,ob) ∈ y.2→¬ Gone ops (listed.setIfInBounds j true) d→(∀ (k':Nat)(x':SV × Obs),k < k'→tr[k']?=some x'→(listed.setIfInBounds j true).getD k' false=true→∀ ob',(d,ob') ∉ x'.2)→Obs.get B' d=some ob) →
   (∀ d ob,d < HL→Obs.get B' d=some ob→Obs.get B0 d=some ob∨∃ (k:Nat)(y:SV × Obs),tr[k]?=some y∧(listed.setIfInBounds j true).getD k false=true∧(d,ob) ∈ y.2∧¬ Gone ops (listed.setIfInBounds j true) d)→K a' w':=by
  intro T' B' β' a' w' hdef' hlen hT0' hT' hR2 hk2 hhp' hb0 hb2' hb3'
  apply hK
  refine ⟨closed_set hcl hjs (fun o' ho' e he hb=>hr e (by rw [hjo] at ho';injection ho' with ho';rw [ho'];exact he) hb),by simpa using hsz,fun k hkm=>?_,fun k hkm=>?_,hdef',T',B',β',hlen,hT0',hT',hb0,hb2',hb3',hhp',hR2,hk2⟩
  ·rw [getD_set _ _ _ _ hjs,if_neg (fun he=>by subst he;rw [tailAt_late (by rw [lateAt_of hjo];exact hlate)] at hkm;cases hkm)];exact honly k hkm
  ·rw [getD_set _ _ _ _ hjs]
   split
   ·rfl
   ·exact hheads k hkm
 -- what stood in the slots
 have put0:∀ (v:SV)(i:Nat),(∀ (k:Nat)(o:Oper),ops.toList[k]?=some o→(listed.setIfInBounds j true).getD k false=true→dstA ops o≠some i)→(putT T o.dst v)[i]?=T0[i]?:=by
  intro v i hi
  have hnj:=hi j o hj (by rw [getD_set _ _ _ _ hjs,if_pos rfl])
  rw [hda] at hnj
  have:(putT T o.dst v)[i]?=T[i]?:=by
   unfold putT
   cases hd:o.dst with
   | none=>rfl
   | some d =>
    simp only
    rw [List.getElem?_set_ne (by intro h;subst h;exact hnj hd)]
  rw [this]
  refine ht1 i fun k y hk1 hk2=>?_
  by_cases hkj:j=k
  ·subst hkj
   rw [hj] at hk1;injection hk1 with hk1;subst hk1;rw [hda];exact hnj
  ·exact hi k y hk1 (by rw [getD_set _ _ _ _ hjs,if_neg hkj];exact hk2)
 have putK:∀ (v:SV)(k:Nat)(y:Oper)(z:SV × Obs)(i:Nat),j≠k→ops.toList[k]?=some y→tr[k]?=some z→(listed.setIfInBounds j true).getD k false=true→dstA ops y=some i→i < T0.length→¬ Gone ops (listed.setIfInBounds j true) i→(putT T o.dst v)[i]?=some z.1:=by
  intro v k y z i hkj hk1 hk2' hk3 hk4 hk5 hg
  rw [getD_set _ _ _ _ hjs,if_neg hkj] at hk3
  have:=ht2 k y z i hk1 hk2' hk3 hk4 hk5 (fun h=>hg (goneMono i h))
  unfold putT
  cases hd:o.dst with
  | none=>exact this
  | some d =>
   simp only
   rw [List.getElem?_set_ne (by
    intro h;subst h
    exact hkj (filterMap_nodup_ne D.nd hj hk1 (hda.trans hd) hk4))]
   exact this
 have fin:∀ {B':Obs} {β':Beta}{a':Act}{w':World},a'.defers=[]→Rel E.P Mo β' (putT T o.dst x.1) B' a'.tmps.toList w'→Kp w0 F β' B' w'→HH tr B0 (listed.setIfInBounds j true) B'→(∀ d y,d < HL→Obs.get B0 d=some y→Obs.get B' d=some y) →
   (∀ (k:Nat)(y:SV × Obs) d ob,d < HL→tr[k]?=some y→(listed.setIfInBounds j true).getD k false=true→(d,ob) ∈ y.2→¬ Gone ops (listed.setIfInBounds j true) d→(∀ (k':Nat)(x':SV × Obs),k < k'→tr[k']?=some x'→(listed.setIfInBounds j true).getD k' false=true→∀ ob',(d,ob') ∉ x'.2)→Obs.get B' d=some ob) →
   (∀ d ob,d < HL→Obs.get B' d=some ob→Obs.get B0 d=some ob∨∃ (k:Nat)(y:SV × Obs),tr[k]?=some y∧(listed.setIfInBounds j true).getD k false=true∧(d,ob) ∈ y.2∧¬ Gone ops (listed.setIfInBounds j true) d)→K a' w':=by
  intro B' β' a' w' hdef' hR2 hk2 hhp' hb0 hb2' hb3'
  refine fin0 hdef' (by rw [putT_len];exact ht0) (put0 _) (fun k y z i hk1 hk2' hk3 hk4 hk5 hg=>?_) hR2 hk2 hhp' hb0 hb2' hb3'
  by_cases hkj:j=k
  ·subst hkj
   rw [hj] at hk1;injection hk1 with hk1;subst hk1
   rw [hx] at hk2';injection hk2' with hk2';subst hk2'
   rw [hda] at hk4
   rw [hk4]
   show (T.set i x.1)[i]?=_
   rw [List.getElem?_set_self (by omega)]
  ·exact putK _ k y z i hkj hk1 hk2' hk3 hk4 hk5 hg
 have next:linOf ops o=none→∀ {B':Obs} {β':Beta}{v:Value}{w':World},Rel E.P Mo β' T B' a.tmps.toList w'→Kp w0 F β' B' w'→RS E.P w' (Mut Mo β' B') β' B' x.1 v→HH tr B0 (listed.setIfInBounds j true) B' →
   (∀ d y,d < HL→Obs.get B0 d=some y→Obs.get B' d=some y)→(∀ d ob,d < HL→Obs.get B d=some ob→Obs.get B' d=some ob)→(∀ d ob,d < HL→(d,ob) ∈ x.2→Obs.get B' d=some ob)→(∀ d ob,d < HL→Obs.get B' d=some ob→Obs.get B d=some ob∨(d,ob) ∈ x.2)→K (a.put o.dst v) w':=by
  intro hlin B' β' v w' hR' hk' hs hhp' hb0 hbB hbx hbf
  have goneEq:∀ d,¬ Gone ops listed d→¬ Gone ops (listed.setIfInBounds j true) d:=fun d h1 h2=>by
   rcases goneSet d h2 with h|h
   ·exact h1 h
   ·rw [hlin] at h;cases h
  have hIp:=Inv.put (st:={ T:=T,B:=B' }) hdef ⟨β',hR',hk',hs⟩ o.dst
  rw [put_eq] at hIp
  obtain ⟨hdef',β2,hR2,hk2⟩:=hIp
  refine fin hdef' hR2 hk2 hhp' hb0 (fun k y d ob hdl hk1 hk2' hk3 hng hcond=>?_) (fun d ob hdl hd=>?_)
  ·by_cases hkj:j=k
   ·subst hkj
    rw [hx] at hk1;injection hk1 with hk1;subst hk1
    exact hbx d ob hdl hk3
   ·rw [getD_set _ _ _ _ hjs,if_neg hkj] at hk2'
    refine hbB d ob hdl (hb2 k y d ob hdl hk1 hk2' hk3 (fun h=>hng (goneMono d h)) fun k' x' h1 h2 h3=>hcond k' x' h1 h2 ?_)
    rw [getD_set _ _ _ _ hjs]
    split
    ·rfl
    ·exact h3
  ·rcases hbf d ob hdl hd with h|h
   ·rcases hb3 d ob hdl h with h|⟨k,y,h1,h2,h3,h4⟩
    ·exact .inl h
    ·refine .inr ⟨k,y,h1,?_,h3,goneEq d h4⟩
     rw [getD_set _ _ _ _ hjs]
     split
     ·rfl
     ·exact h2
   ·refine .inr ⟨j,x,hx,by rw [getD_set _ _ _ _ hjs,if_pos rfl],h,goneEq d ?_⟩
    obtain ⟨ok,o1,o2,o3,o4⟩:=owner htl hY hdl hx h
    rintro ⟨j',o',g1,g2,g3⟩
    have hok:ok=o:=by rw [hj] at o1;injection o1 with o1;exact o1.symm
    subst hok
    obtain ⟨g4,_,s',t',g5⟩:=lin_tail g2
    rcases o4 with o4|⟨_,z,_,_,_,_,g6,_⟩
    ·have hlk:d ∈ o'.looksAt ops:=looksAt_op (by rw [g5];simp [Op.operands])
     rcases Nat.lt_trichotomy j j' with hlt|heq|hgt
     ·rcases D.ap j j' ok o' hlt hjo g1 hlate g4 with hbef|hap
      ·have:=bef_listed hcl hbef g3
       rw [hu] at this;cases this
      ·exact (Oper.apart_spec hap).1 d o4.1 hlk
     ·subst heq;rw [hu] at g3;cases g3
     ·rcases D.ap j' j o' ok hgt g1 hjo g4 hlate with hbef|hap
      ·obtain ⟨xj',hxj'⟩:∃ xj',tr[j']?=some xj':=⟨_,List.getElem?_eq_getElem (by have:=(Array.getElem?_eq_some_iff.1 g1).1;omega)⟩
       rcases (hY j' o' xj' (by rw [Array.getElem?_toList];exact g1) hxj').2 g4 with ⟨_,_,_,q,_⟩|⟨_,q,_⟩|⟨_,u1,d1,e1,c1,l1,q1,q2,q3,q4⟩|⟨_,_,_,_,_,_,q,_⟩
       ·obtain ⟨_,g7,_⟩:=lin_tail g2
        rw [g7] at q;cases q
       ·rw [g2] at q;cases q
       ·rw [g2] at q1;injection q1 with q1;subst q1
        rcases q3 with ⟨k1,y1,r1,r2,r3⟩|q3
        ·obtain ⟨ok1,p1,p2,p3,p4⟩:=owner htl hY hdl r2 r3
         rcases p4 with p4|⟨_,_,_,_,_,_,_,p5,_⟩
         ·have:=filterMap_nodup_ne D.nd p1 hj ((dstA_of p2).trans p4.1) (hda.trans o4.1)
          omega
         ·cases p5
        ·simp at q3
       ·rw [g5] at q;cases q
      ·exact (Oper.apart_spec hap).2.2 d o4.1 hlk
    ·exact D.lin j' o' d g1 g2 j ok hjo (fun e=>by subst e;rw [hu] at g3;cases g3) (store_looks g6)
 unfold wpOp
 rw [hjo]
 simp only
 have hwant:(o.guard=none∨∃ g want dj b,o.guard=some (g,want)∧(ops[g]?).bind (·.dst)=some dj∧(putAll ops ops.toList tr j T0).getD dj .dead=.bool b∧(b==want)=true)→Region.wanted o (yielded ops a.tmps)=true:=by
  intro hguard
  rcases hguard with hg|⟨g,want,dj,b,hg,hd,hs,hb⟩
  ·unfold Region.wanted;rw [hg]
  ·have hgd:=getD_of_get (hsame dj (looksAt_guard hg hd))
   obtain ⟨g1,_⟩:=guard_sound hI hg hd
   rw [g1 b (hgd.trans hs)];exact hb
 have hslot:∀ y ∈ o.op.operands,∀ P t,({ T:=putAll ops ops.toList tr j T0,B:=B0 }:St).get P t y=({ T:=T,B:=B }:St).get P t y:=by
  intro y hy P t
  cases y with
  | tmp i=>exact (getD_of_get (hsame i (looksAt_op hy))).symm
  | _=>rfl
 rcases (hY j o x hj hx).2 hlate with ⟨g,want,dj,hg,hd,hs,hxe⟩|⟨hguard,hlin,hq,hal,hos⟩|⟨hguard,u,d,e0,c0,l0,hlin,hcv,hlaid,hxe⟩|⟨hguard,t,d,y,p,s,hop,hdst,hTd,hlaid,hp,hxe,hdlo⟩
 rotate_right
 ·-- a new variable's content
  rw [if_pos (hwant hguard)]
  left
  have hld:d ∈ o.looksAt ops:=store_looks hop
  have hTd':T.getD d .dead=.ptr d []:=(getD_of_get (hsame d hld)).trans hTd
  obtain ⟨k,yk,hkj,hk1,hk2⟩:∃ (k:Nat)(y:SV × Obs),k < j∧tr[k]?=some y∧(d,.box t s) ∈ y.2:=by
   rcases hlaid with h|h
   ·exact h
   ·simp at h
  have hfresh:=(D.fresh j o hjo hlate t d y hop).2
  have notSt:∀ (k:Nat)(ok:Oper) t' z,ops.toList[k]?=some ok→ok.op=.store t' (.tmp d) z→k=j:=fun k ok t' z h1 h2=>by
   rcases Nat.decEq k j with h|h
   ·exact absurd (store_looks h2) (hfresh k ok (by rw [←Array.getElem?_toList];exact h1) h)
   ·exact h
  have hdl:=lowHL hdlo
  obtain ⟨ok,o1,o2,o3,o4⟩:=owner htl hY hdl hk1 hk2
  have o4:ok.dst=some d∧laysOp ok=true:=by
   rcases o4 with h|⟨_,_,_,_,_,_,h,_⟩
   ·exact h
   ·have:=notSt k ok _ _ o1 h
    omega
  have hB0d:Obs.get B0 d=none:=hfree k ok (by rw [←Array.getElem?_toList];exact o1) o2 o4.2 d o4.1
  have same:∀ (k':Nat)(y':SV × Obs)(ob':Ob),tr[k']?=some y'→(d,ob') ∈ y'.2→k'≠j→k'=k∧ob'=.box t s:=by
   intro k' y' ob' h1 h2 hne
   obtain ⟨ok',p1,p2,p3,p4⟩:=owner htl hY hdl h1 h2
   rcases p4 with p4|⟨_,_,_,_,_,_,h,_⟩
   ·have:=filterMap_nodup_ne D.nd o1 p1 ((dstA_of o2).trans o4.1) ((dstA_of p2).trans p4.1)
    subst this
    rw [hk1] at h1;injection h1 with h1;subst h1
    rw [o3] at p3
    simp only [List.cons.injEq,Prod.mk.injEq,and_true,true_and] at p3
    exact ⟨rfl,p3.symm⟩
   ·exact absurd (notSt k' ok' _ _ p1 h) hne
  have hBd:Obs.get B d=some (.box t s):=by
   have hgs:RS E.P w (Mut Mo β B) β B (.ptr d []) (a.eval (.tmp d)):=by
    have:=get_sound (st:={ T:=T,B:=B }) hR 0 (.tmp d)
    have e:({ T:=T,B:=B }:St).get E.P 0 (.tmp d)=.ptr d []:=hTd'
    rwa [e] at this
   generalize a.eval (.tmp d)=vy at hgs
   cases hgs with
   | ptr h1 =>
    rcases hb3 d _ hdl h1 with h|⟨k',y',h2,h3,h4,_⟩
    ·rw [hB0d] at h;cases h
    ·have hne:k'≠j:=fun e=>by subst e;rw [hu] at h3;cases h3
     rw [h1,(same k' y' _ h2 h4 hne).2]
  have hE:opE E o { T:=T,B:=B } (fun st=>some (st.T,st.B))=some (T,Obs.ins d p (Obs.del d B)):=by
   have e1:({ T:=T,B:=B }:St).get E.P 0 (.tmp d)=.ptr d []:=hTd'
   have e0:hpEff E o { T:=T,B:=B }=false:=by unfold hpEff;rw [hop];simp only [e1]
   unfold opE
   rw [e0,cond_false]
   unfold opE0
   rw [hop]
   have e2:(Ob.box t s).putAt E.P t (({ T:=T,B:=B }:St).get E.P t y) []=some p:=by rw [←hslot y (by rw [hop];simp [Op.operands])];exact hp
   simp only
   rw [e1]
   simp only
   rw [hBd]
   simp only
   rw [e2]
   simp only [Ob.typAt,typT,beq_self_eq_true,cond_true,hdst]
   rfl
  obtain ⟨st',e1,e2⟩:=opE_sound hL hC hI (D.lo j o hjo hlate).1 hE
  simp only [Option.some.injEq,Prod.mk.injEq] at e1
  refine e2 _ _ fun a' w' hI'=>?_
  obtain ⟨hdef',β',hR',hk'⟩:=hI'
  rw [e1.1,e1.2] at hR'
  rw [e1.2] at hk'
  have hget:∀ e,Obs.get (Obs.ins d p (Obs.del d B)) e=if d=e then some p else Obs.get B e:=by
   intro e
   rw [Obs.get_ins hdl,Obs.get_del hdl]
   by_cases he:d=e
   ·rw [if_pos he,if_pos he]
   ·rw [if_neg he,if_neg he,if_neg he]
  refine fin hdef' (by rw [hdst];exact hR') hk' (hhp.keep hjs hx (fun ob hm=>by rw [hxe] at hm;simp only [List.mem_singleton,Prod.mk.injEq] at hm;omega) (by rw [Obs.hps_ins hdl,Obs.hps_del hdl]) (by rw [hasH_ins hdl,hasH_del hdl])) (fun e z hel hz=>?_) (fun k' y' e ob' hel h1 h2 h3 hng hcond=>?_) (fun e ob' hel h1=>?_)
  ·rw [hget,if_neg (fun he=>by subst he;rw [hB0d] at hz;cases hz)]
   exact hb1 e z hel hz
  ·rw [hget]
   by_cases hkk:k'=j
   ·subst hkk
    rw [hx] at h1;injection h1 with h1;subst h1
    rw [hxe] at h3
    simp only [List.mem_singleton,Prod.mk.injEq] at h3
    rw [if_pos h3.1.symm,h3.2]
   ·by_cases he:d=e
    ·subst he
     have hkk':=(same k' y' ob' h1 h3 hkk).1
     exfalso
     refine hcond j x (by omega) hx (by rw [getD_set _ _ _ _ hjs,if_pos rfl]) (p) ?_
     rw [hxe];simp
    ·rw [if_neg he]
     rw [getD_set _ _ _ _ hjs,if_neg (Ne.symm hkk)] at h2
     refine hb2 k' y' e ob' hel h1 h2 h3 (fun h=>hng (goneMono e h)) fun k2 x2 q1 q2 q3=>hcond k2 x2 q1 q2 ?_
     rw [getD_set _ _ _ _ hjs]
     split
     ·rfl
     ·exact q3
  ·rw [hget] at h1
   by_cases he:d=e
   ·subst he
    rw [if_pos rfl] at h1;injection h1 with h1;subst h1
    refine .inr ⟨j,x,hx,by rw [getD_set _ _ _ _ hjs,if_pos rfl],by rw [hxe];simp,?_⟩
    rintro ⟨j',o',g1,g2,g3⟩
    obtain ⟨_,_,s',t',g5⟩:=lin_tail g2
    rcases Nat.decEq j' j with hne|heq
    ·exact hfresh j' o' g1 hne (looksAt_op (by rw [g5];simp [Op.operands]))
    ·subst heq
     rw [hjo] at g1;injection g1 with g1;subst g1
     rw [hop] at g5;cases g5
   ·rw [if_neg he] at h1
    rcases hb3 e ob' hel h1 with h|⟨k2,y2,q1,q2,q3,q4⟩
    ·exact .inl h
    ·refine .inr ⟨k2,y2,q1,?_,q3,fun h=>by
      rcases goneSet e h with h|h
      ·exact q4 h
      ·obtain ⟨_,_,s',t',g5⟩:=lin_tail h
       rw [hop] at g5;cases g5⟩
     rw [getD_set _ _ _ _ hjs]
     split
     ·rfl
     ·exact q2
 rotate_right
 ·-- bytes that go on as data
  rw [if_pos (hwant hguard)]
  left
  obtain ⟨_,_,s1,t1,hop⟩:=lin_tail hlin
  have hcv':convA E o { T:=T,B:=B }=some (.own u d):=convA_congr hslot hcv
  have hrow:∃ e l,Obs.get B d=some (.row e l):=by
   obtain ⟨y,hg⟩:=convA_own hcv'
   have hgs:RS E.P w (Mut Mo β B) β B (.own u d) (a.eval y):=by
    have:=get_sound (st:={ T:=T,B:=B }) hR o.type y
    rwa [hg] at this
   generalize a.eval y=vy at hgs
   cases hgs with
   | own _ h2=>exact ⟨_,_,h2⟩
   | ownNil _ h2=>exact ⟨_,_,h2⟩
  have hdl:d < HL:=by obtain ⟨e,l,h⟩:=hrow;exact row_low h
  obtain ⟨k,y,hkj,h1,h2⟩:∃ (k:Nat)(y:SV × Obs),k < j∧tr[k]?=some y∧(d,.row e0 (c0 :: l0)) ∈ y.2:=by
   rcases hlaid with h|h
   ·exact h
   ·simp at h
  have lays:∀ (k:Nat)(y:SV × Obs)(ob:Ob),(∃ e l,ob=.row e l)→tr[k]?=some y→(d,ob) ∈ y.2→∃ ok,ops.toList[k]?=some ok∧skipOp ops ok=false∧ok.dst=some d∧laysOp ok=true∧y.2=[(d,ob)]:=by
   intro k y ob hrow h1 h2
   obtain ⟨ok,o1,o2,o3,o4⟩:=owner htl hY hdl h1 h2
   rcases o4 with o4|⟨_,_,_,_,_,_,_,h,_⟩
   ·exact ⟨ok,o1,o2,o4.1,o4.2,o3⟩
   ·obtain ⟨e,l,rfl⟩:=hrow
    cases h
  obtain ⟨ok,k1,k2,k3,k4,k5⟩:=lays k y _ ⟨_,_,rfl⟩ h1 h2
  have hB0d:Obs.get B0 d=none:=hfree k ok (by rw [←Array.getElem?_toList];exact k1) k2 k4 d k3
  have hBd:Obs.get B d=some (.row e0 (c0 :: l0)):=by
   obtain ⟨e1,l1,hBd⟩:=hrow
   rcases hb3 d _ hdl hBd with h|⟨k',y',h1',_,h3',_⟩
   ·rw [hB0d] at h;cases h
   ·obtain ⟨ok',k1',k2',k3',_,k5'⟩:=lays k' y' _ ⟨_,_,rfl⟩ h1' h3'
    have:=filterMap_nodup_ne D.nd k1 k1' ((dstA_of k2).trans k3) ((dstA_of k2').trans k3')
    subst this
    rw [h1] at h1';injection h1' with h1';subst h1'
    rw [k5] at k5'
    simp only [List.cons.injEq,Prod.mk.injEq,and_true,true_and] at k5'
    rw [hBd,k5']
  obtain ⟨v,w',q1,q2,q3,q4⟩:=conv_own (a:=a) hR hk hcv' (by show fullRow (Obs.get B d)=true;rw [hBd];rfl)
  unfold Oper.wp
  rw [q1,Oper.upon_value]
  have hIp:=Inv.put (st:={ T:=T,B:=B }) hdef ⟨β,q2,q3,q4⟩ o.dst
  rw [put_eq] at hIp
  have hIr:=Inv.retireAll [d] hIp
  have hret:retireAll [d] ({ T:=putT T o.dst (.own u d),B:=B }:St)={ T:=SV.drops d (.list (c0 :: l0)) (putT T o.dst (.own u d)),B:=Obs.drop d (.list (c0 :: l0)) (Obs.del d B) }:=by
   show St.retire { T:=putT T o.dst (.own u d),B:=B } d=_
   rw [retire_lo hdl]
   simp only
   rw [hBd]
   rfl
  rw [hret] at hIr
  obtain ⟨hdef',β',hR',hk'⟩:=hIr
  have hget:∀ e,Obs.get (Obs.drop d (.list (c0 :: l0)) (Obs.del d B)) e=if d=e then none else (Obs.get B e).map (Ob.drop d (.list (c0 :: l0))):=by
   intro e
   rw [Obs.get_drop,Obs.get_del hdl]
   by_cases he:d=e <;> simp [he]
  have hobj:∀ e ob,e < HL→Obs.get B e=some ob→ob.drop d (.list (c0 :: l0))=ob:=by
   intro e ob hel hob
   refine Ob.drop_id d _ ?_
   rcases hb3 e ob hel hob with h|⟨k',y',h1',_,h3',_⟩
   ·exact hclean.b0 j o d hjo hlin e ob h
   ·exact hclean.b j o d hjo hlin k' y' e ob h1' h3'
  have hgone:Gone ops (listed.setIfInBounds j true) d:=⟨j,o,hjo,hlin,by rw [getD_set _ _ _ _ hjs,if_pos rfl]⟩
  refine fin0 hdef' (by rw [drops_len,putT_len];exact ht0) (fun i hi=>?_) (fun k' o' x' i p1 p2 p3 p4 p5 p6=>?_) hR' hk' (hhp.keep hjs hx (fun ob hm=>by rw [hxe] at hm;simp at hm) (by rw [Obs.hps_drop,Obs.hps_del hdl]) (by rw [hasH_drop,hasH_del hdl])) (fun e z hel hz=>?_) (fun k' y' e ob' hel p1 p2 p3 p4 p5=>?_) (fun e ob' hel p1=>?_)
  ·rw [drops_get,put0 _ i hi]
   cases h0:T0[i]? with
   | none=>rfl
   | some s0=>rw [Option.map_some,SV.drop_id d _ s0 (hclean.t0 j o d hjo hlin i s0 h0)]
  ·rw [drops_get]
   by_cases hkj:j=k'
   ·subst hkj
    rw [hj] at p1;injection p1 with p1;subst p1
    rw [hx] at p2;injection p2 with p2;subst p2
    rw [hda] at p4
    rw [p4]
    have:(putT T (some i) (.own u d))[i]?=some (.own u d):=by
     show (T.set i (.own u d))[i]?=_
     rw [List.getElem?_set_self (by omega)]
    rw [this,hxe]
    show some (SV.drop d (.list (c0 :: l0)) (.own u d))=_
    unfold SV.drop
    rw [beq_self_eq_true];rfl
   ·rw [putK _ k' o' x' i hkj p1 p2 p3 p4 p5 p6,Option.map_some]
    have hne:i≠d:=fun e=>by subst e;exact p6 hgone
    rw [SV.drop_id d _ x'.1 (hclean.t j o d hjo hlin k' o' x' i p1 p2 p4 p5 hne)]
  ·rw [hget,if_neg (fun he=>by subst he;rw [hB0d] at hz;cases hz),hb1 e z hel hz,Option.map_some,hobj e z hel (hb1 e z hel hz)]
  ·have hne:d≠e:=fun he=>by subst he;exact p4 hgone
   rw [hget,if_neg hne]
   have hkj:j≠k':=fun he=>by
    subst he
    rw [hx] at p1;injection p1 with p1;subst p1
    rw [hxe] at p3;simp at p3
   rw [getD_set _ _ _ _ hjs,if_neg hkj] at p2
   have:=hb2 k' y' e ob' hel p1 p2 p3 (fun h=>p4 (goneMono e h)) fun k2 x2 r1 r2 r3=>p5 k2 x2 r1 r2 (by
    rw [getD_set _ _ _ _ hjs]
    split
    ·rfl
    ·exact r3)
   rw [this,Option.map_some,hobj e ob' hel this]
  ·rw [hget] at p1
   by_cases hne:d=e
   ·rw [if_pos hne] at p1;cases p1
   ·rw [if_neg hne] at p1
    cases hB:Obs.get B e with
    | none=>rw [hB] at p1;cases p1
    | some ob0 =>
     rw [hB,Option.map_some,hobj e ob0 hel hB] at p1
     injection p1 with p1;subst p1
     rcases hb3 e ob0 hel hB with h|⟨k2,y2,r1,r2,r3,r4⟩
     ·exact .inl h
     ·refine .inr ⟨k2,y2,r1,?_,r3,fun h=>?_⟩
      ·rw [getD_set _ _ _ _ hjs]
       split
       ·rfl
       ·exact r2
      ·rcases goneSet e h with h|h
       ·exact r4 h
       ·rw [hlin] at h;injection h with h;exact hne h
 ·-- not wanted
  have hgd:=getD_of_get (hsame dj (looksAt_guard hg hd))
  obtain ⟨g1,g2⟩:=guard_sound hI hg hd
  have hw:Region.wanted o (yielded ops a.tmps)=false:=by
   rcases hs with hs|⟨b,hs,hb⟩
   ·exact g2 (hgd.trans hs)
   ·rw [g1 b (hgd.trans hs)];exact hb
  rw [if_neg (by rw [hw];simp)]
  subst hxe
  have hlin0:linOf ops o=none:=by
   cases hl:linOf ops o with
   | none=>rfl
   | some d =>
    obtain ⟨_,h,_⟩:=lin_tail hl
    rw [h] at hg;cases hg
  exact next hlin0 hR hk .undef (hhp.keep hjs hx (fun ob hm=>by simp at hm) rfl rfl) hb1 (fun d ob _ h=>h) (fun d ob _ h=>by simp at h) (fun d ob _ h=>.inl h)
 ·have hw:Region.wanted o (yielded ops a.tmps)=true:=by
   rcases hguard with hg|⟨g,want,dj,b,hg,hd,hs,hb⟩
   ·unfold Region.wanted;rw [hg]
   ·have hgd:=getD_of_get (hsame dj (looksAt_guard hg hd))
    obtain ⟨g1,_⟩:=guard_sound hI hg hd
    rw [g1 b (hgd.trans hs)];exact hb
  rw [if_pos hw]
  left
  have hq':opQ E o { T:=T,B:=B } pairK=some ([x.1],x.2):=by
   have hpre:∃ l,Obs.hps B=Obs.hps B0++l:=by
    rcases hhp.2 with ⟨h,_⟩|⟨_,_,ob,_,_,_,h⟩
    ·exact ⟨[],by rw [h,List.append_nil]⟩
    ·exact ⟨_,h⟩
   obtain ⟨l,hl⟩:=hpre
   refine opQ_congr (st:={ T:=putAll ops ops.toList tr j T0,B:=B0 }) (heap_pref hb1 hl) ⟨l,hl⟩ hhp.1 (fun hp hm=>?_) (fun y hy P t=>?_) hq
   ·obtain ⟨ob,hob⟩:=opQ_makes hp hm hq
    rcases hhp.2 with ⟨h,_⟩|⟨k,y,ob',h1,h2,h3,_⟩
    ·exact h
    ·have:=heap_one htl hY (ob:=ob) (ob':=ob') hx (by rw [hob];simp) h1 (by rw [h3];simp)
     subst this
     rw [hu] at h2;cases h2
   cases y with
   | tmp i=>exact (getD_of_get (hsame i (looksAt_op hy))).symm
   | _=>rfl
  have hfr:∀ d,laysOp o=true→o.dst=some d→Obs.get B d=none:=by
   intro d hl hd
   have hdl:d < HL:=by have:=(D.lo j o hjo hlate).1;rw [hd] at this;exact lowHL this
   cases hg:Obs.get B d with
   | none=>rfl
   | some ob =>
    exfalso
    rcases hb3 d ob hdl hg with h|⟨k,y,h1,h2,h3,_⟩
    ·rw [hfree j o hjo hlate hl d hd] at h;cases h
    ·obtain ⟨ok,o1,o2,o3,o4⟩:=owner htl hY hdl h1 h3
     rcases o4 with o4|⟨t,z,v,s,k1,y1,hop,_,hk1,h4,h5⟩
     ·have:=filterMap_nodup_ne D.nd o1 hj ((dstA_of o2).trans o4.1) (hda.trans hd)
      subst this
      rw [hu] at h2;cases h2
     ·have hko:ops[k]?=some ok:=by rw [←Array.getElem?_toList];exact o1
      have hfresh:=(D.fresh k ok hko o2 t d z hop).2
      obtain ⟨ok1,p1,p2,p3,p4⟩:=owner htl hY hdl h4 h5
      rcases p4 with p4|⟨_,_,_,_,_,_,h,_⟩
      ·have:=filterMap_nodup_ne D.nd p1 hj ((dstA_of p2).trans p4.1) (hda.trans hd)
       subst this
       rcases D.ap k1 k o ok hk1 hjo hko hlate o2 with hbef|hap
       ·have:=bef_listed hcl hbef h2
        rw [hu] at this;cases this
       ·exact (Oper.apart_spec hap).1 d hd (store_looks hop)
      ·exact hfresh k1 ok1 (by rw [←Array.getElem?_toList];exact p1) (by omega) (store_looks h)
  have hlo:=D.lo j o hjo hlate
  have hF:Free E o { T:=T,B:=B }:=by
   refine ⟨fun h=>?_,fun t ht y hy _=>?_⟩
   ·have hl:laysOp o=true:=by
     unfold laysOp
     split at h <;> rename_i hop <;> first
      | (rw [hop];done)
      | (rw [hop])
      | cases h
    obtain ⟨d,hd⟩:=hlo.2 hl
    rw [hd]
    exact hfr d hl hd
   ·rw [hal t ht] at hy;simp at hy
  obtain ⟨s,os,hs,hcase⟩:=opQ_sound hL hC hR hk hlo.1 hF hq'
  have hso:s=x.1∧os=x.2:=by
   unfold pairK at hs
   simp only [Option.some.injEq,Prod.mk.injEq,List.cons.injEq,and_true] at hs
   exact hs
  obtain ⟨rfl,hoseq⟩:=hso
  rcases hcase with ⟨hnil,hwp⟩|⟨hnn,hwp⟩
  ·refine hwp _ _ fun v w' hv=>?_
   have hx2:x.2=[]:=by rw [←hoseq];exact hnil
   exact next hlin (hR.world hv.size hv.old) (hk.world hv.size hv.old hv.os hv.output) hv.rs (hhp.keep hjs hx (fun ob hm=>by rw [hx2] at hm;simp at hm) rfl rfl) hb1 (fun d ob _ h=>h) (fun d ob _ h=>by rw [hx2] at h;simp at h) (fun d ob _ h=>.inl h)
  ·refine hwp _ _ fun v w' hp=>?_
   rcases hos with h|⟨d,ob,h,hd,hl,hdl⟩|⟨ob,h,hno,hhas⟩
   ·rw [hoseq] at hnn;exact absurd h hnn
   ·have hdn:=hfr d hl hd
    rw [hoseq,h] at hp
    have hlay:(({ T:=T,B:=B }:St).lay [(d,ob)])={ T:=T,B:=Obs.ins d ob B }:=by
     rw [lay_one _ (lowHL hdl),retire_id hdn]
    rw [hlay] at hp
    obtain ⟨β',p1,p2,p3⟩:=hp
    have hne:∀ d' y,Obs.get B d'=some y→d≠d':=fun d' y hy he=>by subst he;rw [hdn] at hy;cases hy
    refine next hlin p1 p2 p3 (hhp.keep hjs hx (fun ob' hm=>by rw [h] at hm;simp only [List.mem_singleton,Prod.mk.injEq] at hm;have:=lowHL hdl;omega) (Obs.hps_ins (lowHL hdl) _ _) (hasH_ins (lowHL hdl) _ _)) (fun d' y hel hy=>?_) (fun d' y hel hy=>?_) (fun d' y hel hy=>?_) (fun d' y hel hy=>?_)
    ·rw [Obs.get_ins (lowHL hdl),if_neg (hne d' y (hb1 d' y hel hy))];exact hb1 d' y hel hy
    ·rw [Obs.get_ins (lowHL hdl),if_neg (hne d' y hy)];exact hy
    ·rw [h] at hy
     simp only [List.mem_singleton,Prod.mk.injEq] at hy
     obtain ⟨rfl,rfl⟩:=hy
     exact ins_self (lowHL hdl) _ _
    ·rw [Obs.get_ins (lowHL hdl)] at hy
     by_cases hdd:d=d'
     ·subst hdd
      rw [if_pos rfl] at hy;injection hy with hy;subst hy
      exact .inr (by rw [h];simp)
     ·rw [if_neg hdd] at hy;exact .inl hy
   ·-- one more of the heap
    rw [hoseq,h] at hp
    have hlay:(({ T:=T,B:=B }:St).lay [(HL,ob)])={ T:=T,B:=Obs.setH (Obs.hps B++[ob.he]) B }:=by
     unfold St.lay St.lay
     rw [beq_self_eq_true,cond_true]
    rw [hlay] at hp
    obtain ⟨β',p1,p2,p3⟩:=hp
    have hlo':∀ d,d < HL→Obs.get (Obs.setH (Obs.hps B++[ob.he]) B) d=Obs.get B d:=fun d hd=>by rw [Obs.get_lo hd,Obs.get_lo hd,Obs.get0_setH,if_neg (by omega)]
    have hnone:Obs.hps B=Obs.hps B0:=by
     rcases hhp.2 with ⟨h,_⟩|⟨k,y,ob',h1,h2,h3,_⟩
     ·exact h
     ·have:=heap_one htl hY (ob:=ob) (ob':=ob') hx (by rw [h];simp) h1 (by rw [h3];simp)
      subst this
      rw [hu] at h2;cases h2
    have hHB:Obs.hasH B=true:=by rw [hhp.1];exact hhas
    refine next hlin p1 p2 p3 ⟨?_,.inr ⟨j,x,ob,hx,by rw [getD_set _ _ _ _ hjs,if_pos rfl],h,?_⟩⟩ (fun d' y hel hy=>by rw [hlo' d' hel];exact hb1 d' y hel hy) (fun d' y hel hy=>by rw [hlo' d' hel];exact hy) (fun d' y hel hy=>by
     rw [h] at hy
     simp only [List.mem_singleton,Prod.mk.injEq] at hy
     omega) (fun d' y hel hy=>.inl (by rwa [hlo' d' hel] at hy))
    ·rw [←hhp.1]
     rcases hasH_setH (Obs.hps B++[ob.he]) B with h|h
     ·exact h
     ·rw [h,hHB]
    ·rw [setH_hps hHB,hnone]

/-- It yields the same in whatever world, and leaves it as it is; or it does not come back. -/
def Steady (P:Program) {α:Type}(s:Sem α):Prop:=(∃ a,∀ w,s.run P w=.ok a w)∨∀ w,∃ x w',s.run P w=.halt x w'
theorem Steady.pure {P:Program} {α:Type}(a:α):Steady P (pure a:Sem α):=.inl ⟨a,fun w=>rfl⟩
theorem Steady.halt {P:Program} {α:Type}(h:Halt):Steady P (.halt h:Sem α):=.inr fun w=>⟨h,w,rfl⟩
theorem Steady.bind {P:Program} {α β:Type}{s:Sem α}{f:α→Sem β}(h:Steady P s)(hf:∀ a,Steady P (f a)):Steady P (s >>= f):=by
 rcases h with ⟨a,h⟩|h
 ·rcases hf a with ⟨b,g⟩|g
  ·refine .inl ⟨b,fun w=>?_⟩
   rw [Sem.run_bind,h w,Result.andThen_ok,g w]
  ·refine .inr fun w=>?_
   obtain ⟨x,w',g⟩:=g w
   exact ⟨x,w',by rw [Sem.run_bind,h w,Result.andThen_ok,g]⟩
 ·refine .inr fun w=>?_
  obtain ⟨x,w',h⟩:=h w
  exact ⟨x,w',by rw [Sem.run_bind,h];rfl⟩
theorem Steady.after {P:Program} {α β:Type}{s:Sem α}{f:α→Sem β}(hf:∀ a w,∃ x w',(f a).run P w=.halt x w'):Steady P (s >>= f):=by
 refine .inr fun w=>?_
 rw [Sem.run_bind]
 cases h:s.run P w with
 | ok a w'=>rw [Result.andThen_ok];exact hf a w'
 | halt x w'=>exact ⟨x,w',rfl⟩
theorem steady_underlying {P:Program}(t:TypeId):Steady P (underlying t):=by
 unfold underlying
 refine Steady.bind (.inl ⟨P,fun w=>rfl⟩) fun p=>?_
 split
 ·exact .pure _
 ·exact .halt _
theorem steady_typeInfo {P:Program}(t:TypeId):Steady P (typeInfo t):=by
 unfold typeInfo
 refine Steady.bind (.inl ⟨P,fun w=>rfl⟩) fun p=>?_
 split
 ·exact .pure _
 ·exact .halt _
theorem steady_sizeOf {P:Program}(t:TypeId):Steady P (sizeOf t):=by
 unfold sizeOf
 exact Steady.bind (steady_typeInfo t) fun _=>.pure _
theorem steady_asIntOf {P:Program}(v:Value):Steady P (asIntOf v):=by
 unfold asIntOf
 split
 ·exact .pure _
 ·exact .halt _
 ·exact .halt _
theorem halts_bounds {P:Program} {α:Type}(x y:Int)(b:Bool)(c:BoundsCode)(w:World):∃ h w',(runtimePanic (.bounds x y b c):Sem α).run P w=.halt h w':=⟨_,_,rfl⟩
theorem steady_boundsPanic {P:Program} {α:Type}(k:IntKind)(x y:Int)(c:BoundsCode):Steady P (boundsPanic k x y c:Sem α):=by
 unfold boundsPanic
 simp only
 split
 ·exact Steady.after fun a w=>halts_bounds _ _ _ _ _
 ·exact Steady.after fun a w=>halts_bounds _ _ _ _ _
theorem steady_sliceBound {P:Program}(v:Value)(n:Nat)(c:BoundsCode):Steady P (Instr.sliceBound v n c):=by
 unfold Instr.sliceBound
 refine Steady.bind (steady_asIntOf v) fun p=>?_
 obtain ⟨k,i⟩:=p
 simp only
 split
 ·exact .pure _
 ·exact steady_boundsPanic _ _ _ _
theorem steady_sliceBounds {P:Program}(b:Bool)(n c:Nat)(lo hi mx:Option Value):Steady P (Instr.sliceBounds b n c lo hi mx):=by
 have h3:∀ (m h:Nat),Steady P (match lo with
   | some v=>do
    let l ←Instr.sliceBound v h (if mx.isSome=true then BoundsCode.slice3C else BoundsCode.sliceB)
    Pure.pure (l,h,m)
   | none=>do
    let l ←Pure.pure 0
    Pure.pure (l,h,m):Sem (Nat × Nat × Nat)):=by
  intro m h
  split
  ·exact Steady.bind (steady_sliceBound _ _ _) fun _=>.pure _
  ·exact Steady.bind (.pure _) fun _=>.pure _
 unfold Instr.sliceBounds
 simp only
 split
 ·refine Steady.bind (steady_sliceBound _ _ _) fun m=>?_
  split
  ·exact Steady.bind (steady_sliceBound _ _ _) fun h=>h3 m h
  ·exact Steady.bind (steady_sliceBound _ _ _) fun h=>h3 m h
  ·exact Steady.bind (.pure _) fun h=>h3 m h
  ·exact Steady.bind (.halt _) fun h=>h3 m h
 ·refine Steady.bind (.pure _) fun m=>?_
  split
  ·exact Steady.bind (steady_sliceBound _ _ _) fun h=>h3 m h
  ·exact Steady.bind (steady_sliceBound _ _ _) fun h=>h3 m h
  ·exact Steady.bind (.pure _) fun h=>h3 m h
  ·exact Steady.bind (.halt _) fun h=>h3 m h
theorem steady_asAddr {P:Program}(v:Value):Steady P (asAddr v):=by
 unfold asAddr
 split
 ·exact .pure _
 ·exact .inr fun w=>⟨_,w,rfl⟩
 ·exact .halt _
theorem steady_slice {P:Program}(t:TypeId)(x:Value)(lo hi mx:Option Value):Steady P (Instr.slice t x lo hi mx):=by
 unfold Instr.slice
 refine Steady.bind (steady_underlying t) fun d=>?_
 split
 ·simp only
  split
  ·exact .halt _
  ·refine Steady.bind (steady_sliceBounds _ _ _ _ _ _) fun p=>?_
   obtain ⟨l,h,m⟩:=p
   exact .pure _
 ·refine Steady.bind (steady_sliceBounds _ _ _ _ _ _) fun p=>?_
  obtain ⟨l,h,m⟩:=p
  exact Steady.bind (steady_sizeOf _) fun _=>.pure _
 ·refine Steady.bind (steady_asAddr _) fun _=>Steady.bind (steady_underlying _) fun d=>?_
  split
  ·refine Steady.bind (steady_sliceBounds _ _ _ _ _ _) fun p=>?_
   obtain ⟨l,h,m⟩:=p
   exact Steady.bind (steady_sizeOf _) fun _=>.pure _
  ·exact .halt _
 ·exact .halt _
theorem steady_sliceAt {P:Program}(t:TypeId)(x:Value)(lo hi mx:Option Value):Steady P (Instr.sliceAt t x lo hi mx):=by
 unfold Instr.sliceAt
 refine Steady.bind (steady_underlying t) fun d=>?_
 split
 ·refine Steady.bind ?_ fun _=>?_
  ·unfold Instr.sureAddr
   split
   ·exact .pure _
   ·exact .halt _
  ·refine Steady.bind (steady_sliceBounds _ _ _ _ _ _) fun p=>?_
   obtain ⟨l,h,m⟩:=p
   exact Steady.bind (steady_sizeOf _) fun _=>.pure _
 ·exact steady_slice _ _ _ _ _
theorem steady_idxEnd {P:Program}(k:IntKind)(i:Int)(base:Option Addr)(len:Nat)(elem:TypeId)(tiny:Bool):Steady P (match base with
  | some a=>if 0≤i∧i < (len:Int) then do
    let z ←Go.sizeOf elem
    pure (Value.pointer (some (a.add (i.toNat * z))))
   else if tiny=true then unsupported (.noEntry "op/indexAddr.an index out of range at an array of length 0 or 1 (ledger 616)") else boundsPanic k i (len:Int) .index
  | none=>boundsPanic k i 0 .index:Sem Value):=by
 split
 ·split
  ·exact Steady.bind (steady_sizeOf _) fun _=>.pure _
  ·split
   ·exact .halt _
   ·exact steady_boundsPanic _ _ _ _
 ·exact steady_boundsPanic _ _ _ _
theorem steady_indexAt {P:Program}(t:TypeId)(x ix:Value):Steady P (Instr.indexAt t x ix):=by
 unfold Instr.indexAt
 refine Steady.bind (steady_asIntOf ix) fun p=>?_
 obtain ⟨k,i⟩:=p
 refine Steady.bind (steady_underlying t) fun d=>?_
 split
 ·refine Steady.bind ?_ fun a=>Steady.bind (.pure _) fun q=>?_
  ·unfold Instr.sureAddr
   split
   ·exact .pure _
   ·exact .halt _
  ·obtain ⟨base,len,elem⟩:=q
   exact Steady.bind (steady_underlying t) fun d2=>steady_idxEnd k i base len elem _
 ·refine Steady.bind (.pure _) fun q=>?_
  obtain ⟨base,len,elem⟩:=q
  exact Steady.bind (steady_underlying t) fun d2=>steady_idxEnd k i base len elem _
 ·refine Steady.bind (.halt _) fun q=>?_
  obtain ⟨base,len,elem⟩:=q
  exact Steady.bind (steady_underlying t) fun d2=>steady_idxEnd k i base len elem _
theorem steady_value {P:Program}{s:Sem Value}(h:Steady P s):(∃ v,∀ w,(do pure (Next.value (←s)):Sem Next).run P w=.ok (.value v) w)∨∀ w,∃ x w',(do pure (Next.value (←s)):Sem Next).run P w=.halt x w':=by
 rcases h with ⟨a,h⟩|h
 ·refine .inl ⟨a,fun w=>?_⟩
  rw [Sem.run_bind,h w];rfl
 ·refine .inr fun w=>?_
  obtain ⟨x,w',h⟩:=h w
  exact ⟨x,w',by rw [Sem.run_bind,h];rfl⟩
/-- The fields whose places are asked for are of some size. -/
def FaOk (P:Program)(o:Oper):Prop:=∀ t x f,o.op=.fieldAddr t x f→∃ fs fd i,P.underlying t=some (.struct fs)∧fs[f]?=some fd∧P.info? fd.type=some i∧P.cellsOf fd.type≠0
theorem faOk_spec {E:Env}{ops:Array Oper}(h:faOk E ops=true){j:Nat}{o:Oper}(hj:ops[j]?=some o):FaOk E.P o:=by
 intro t x f ho
 unfold faOk at h
 have:=List.all_eq_true.1 h o (by simpa using Array.mem_of_getElem? hj)
 rw [ho] at this
 simp only at this
 split at this
 ·rename_i fs hu
  split at this
  ·rename_i fd hf
   simp only [Bool.and_eq_true,decide_eq_true_eq,Bool.not_eq_true',decide_eq_false_iff_not] at this
   have hi:∃ i,E.P.info? fd.type=some i:=by
    cases h:E.P.info? fd.type with
    | none=>exact absurd (by unfold Program.cellsOf;rw [h];rfl) this.2
    | some i=>exact ⟨i,rfl⟩
   obtain ⟨i,hi⟩:=hi
   exact ⟨fs,fd,i,hu,hf,hi,this.2⟩
  ·cases this
 ·cases this
theorem steady_fieldAt {P:Program}{t f:Nat}{fs:Array Field}{fd:Field}{i:TypeInfo}(hu:P.underlying t=some (.struct fs))(hf:fs[f]?=some fd)(hi:P.info? fd.type=some i)(h0:P.cellsOf fd.type≠0)(v:Value):Steady P (Instr.fieldAt t v f):=by
 by_cases hv:∃ a,v=.pointer (some a)
 ·obtain ⟨a,rfl⟩:=hv
  refine .inl ⟨.pointer (some (a.add fd.offset)),fun w=>?_⟩
  unfold Instr.fieldAt
  simp only [Sem.run_bind,run_underlying hu,Result.andThen_ok,hf,Instr.sureAddr,Sem.run_pure,fieldPlace,run_sizeOf w hi,if_neg h0]
 ·refine .inr fun w=>?_
  unfold Instr.fieldAt
  simp only [Sem.run_bind,run_underlying hu,Result.andThen_ok,hf]
  have hs:Instr.sureAddr v=stuck "an address expected (no nilCheck in front?)":=by
   unfold Instr.sureAddr
   split
   ·exact absurd ⟨_,rfl⟩ hv
   ·rfl
  rw [hs]
  exact ⟨_,w,rfl⟩
theorem steady_part {P:Program}(t:TypeId)(cs:Array Value)(off:Nat):Steady P (part t cs off):=by
 unfold part isAgg
 refine Steady.bind (Steady.bind (steady_underlying t) fun d=>?_) fun i=>?_
 ·split <;> exact .pure _
 split
 ·exact Steady.bind (steady_sizeOf t) fun _=>.pure _
 ·split
  ·exact .pure _
  ·exact .halt _
theorem steady_followBlind {P:Program}:∀ (l:List FieldStep)(t:TypeId)(x:Option Value),Steady P (followBlind l t x)
 | [],t,x=>by unfold followBlind;exact .pure _
 | s :: rest,t,x=>by
  unfold followBlind
  refine Steady.bind (steady_underlying _) fun d=>?_
  split
  ·split
   ·split
    ·exact .pure _
    ·exact steady_followBlind rest _ _
    ·exact .halt _
    ·exact .pure _
    ·exact Steady.bind (steady_part _ _ _) fun y=>steady_followBlind rest _ _
    ·exact .halt _
    ·exact steady_followBlind rest _ _
   ·exact .halt _
  ·exact .halt _
theorem steady_nilAhead {P:Program}:∀ (n:Nat)(t:TypeId)(v:Value)(name:String),Steady P (nilAhead n t v name)
 | 0,_,_,_=>by unfold nilAhead;exact .pure _
 | n+1,t,v,name=>by
  unfold nilAhead
  refine Steady.bind (steady_typeInfo t) fun i=>?_
  split
  ·refine Steady.bind (steady_followBlind _ _ _) fun r=>?_
   split
   ·exact .pure _
   ·split
    ·exact steady_nilAhead n _ _ _
    ·exact .pure _
    ·exact .halt _
    ·exact .pure _
    ·exact .pure _
    ·refine Steady.bind (steady_underlying _) fun d=>?_
     split <;> exact .pure _
  ·exact .halt _
theorem halts_nil {P:Program} {α:Type}(w:World):∃ h w',(runtimePanic .nilDeref:Sem α).run P w=.halt h w':=⟨_,_,rfl⟩
theorem pure_run {P:Program}{o:Oper}(h:pureOp o=true)(hfa:FaOk P o) (ρ:Operand→Value):(∃ v,∀ w,(execOp ρ o).run P w=.ok (.value v) w)∨(∀ w,∃ x w',(execOp ρ o).run P w=.halt x w'):=by
 unfold pureOp at h
 split at h
 ·rename_i t ix hop
  unfold execOp
  rw [hop]
  refine steady_value ?_
  unfold Instr.extract
  split
  ·split
   ·exact .pure _
   ·exact .halt _
  ·exact .halt _
 ·rename_i x hop
  refine .inl ⟨ρ x,fun w=>?_⟩
  unfold execOp
  rw [hop];rfl
 ·rename_i x hop
  refine .inl ⟨ρ x,fun w=>?_⟩
  unfold execOp
  rw [hop];rfl
 ·rename_i t x lo hi mx hop
  unfold execOp
  rw [hop]
  exact steady_value (steady_sliceAt _ _ _ _ _)
 ·rename_i t x ix hop
  unfold execOp
  rw [hop]
  exact steady_value (steady_indexAt _ _ _)
 ·rename_i t x f hop
  obtain ⟨fs,fd,i,h1,h2,h3,h4⟩:=hfa t x f hop
  unfold execOp
  rw [hop]
  exact steady_value (steady_fieldAt h1 h2 h3 h4 _)
 ·rename_i x hop
  unfold execOp
  rw [hop]
  simp only
  generalize ρ x=v
  cases v with
  | pointer p =>
   cases p with
   | none=>exact .inr fun w=>halts_nil w
   | some a=>exact .inl ⟨_,fun w=>rfl⟩
  | nilIface=>exact .inr fun w=>halts_nil w
  | nilFunc=>exact .inr fun w=>halts_nil w
  | func f first captured =>
   cases f with
   | method name =>
    simp only
    cases hf:(first[0]?:Option Value) with
    | none=>exact .inl ⟨_,fun w=>rfl⟩
    | some u =>
     cases u with
     | nilIface=>exact .inr fun w=>halts_nil w
     | iface t u =>
      simp only
      rcases steady_nilAhead (P:=P) (P.types.size+Made.depth) t u name with ⟨r,h⟩|h
      ·by_cases hr:(r != some false)=true
       ·refine .inr fun w=>?_
        simp only [Sem.run_bind,run_program,Result.andThen_ok,h,hr,if_true]
        exact ⟨_,_,rfl⟩
       ·refine .inl ⟨.func (.method name) first captured,fun w=>?_⟩
        simp only [Sem.run_bind,run_program,Result.andThen_ok,h,hr,if_false,Bool.false_eq_true]
        rfl
      ·refine .inr fun w=>?_
       obtain ⟨x,w',h⟩:=h w
       refine ⟨x,w',?_⟩
       simp only [Sem.run_bind,run_program,Result.andThen_ok,h]
       rfl
     | _=>exact .inl ⟨_,fun w=>rfl⟩
   | _=>exact .inl ⟨_,fun w=>rfl⟩
  | _=>exact .inl ⟨_,fun w=>rfl⟩
 ·cases h

/-- An operation that looks at nothing but what it is handed: it yields the same in whatever world. -/
theorem pure_yields {P:Program}{ops:Array Oper}{Q:Exit→Act→World→Prop}(hQ:∀ e a w,Q e a w→e=.normal){j:Nat}{o:Oper}(hj:ops[j]?=some o)(hp:pureOp o=true)(hfa:FaOk P o){K:Act→World→Prop}{a:Act}{w:World}(h:wpOp P ops Q j K a w) :
  ∃ v,Yields P ops o v a∧K (a.put o.dst v) w:=by
 unfold wpOp at h
 rw [hj] at h
 simp only at h
 by_cases hw:Region.wanted o (yielded ops a.tmps)=true
 ·rw [if_pos hw] at h
  rcases h with h|⟨_,a',w',h⟩
  ·unfold Oper.wp at h
   rcases pure_run (P:=P) hp hfa a.eval with ⟨v,hv⟩|hv
   ·rw [hv w,Oper.upon_value] at h
    exact ⟨v,.inl ⟨hw,hv⟩,h⟩
   ·obtain ⟨x,w',hv⟩:=hv w
    rw [hv] at h
    cases x with
    | panic v=>cases hQ _ _ _ h
    | _=>exact h.elim
  ·cases hQ _ _ _ h
 ·rw [if_neg hw] at h
  exact ⟨Go.undef,.inr ⟨by simpa using hw,rfl⟩,h⟩

theorem Inv.preFreeze {a:Act}{w:World}:∀ (l:List Oper){s st:St},Inv E.P w0 F Mo st a w→Inv E.P w0 F Mo (X.preFreeze E l s st) a w
 | [],_,_,h=>h
 | o :: l,_,_,h=>Inv.preFreeze l (Inv.retireAll _ h)

theorem Rel.weaken {P:Program}{Mo:Nat→Prop} {β:Beta}{T T':List SV}{B:Obs}{vs:List Value}{w:World}(h:Rel P Mo β T B vs w)(hl:T'.length=T.length)(hs:∀ (i:Nat)(s:SV),T'[i]?=some s→s=.dead∨T[i]?=some s):Rel P Mo β T' B vs w:=by
 refine ⟨by rw [h.len];exact hl.symm,fun i s v hs' hv=>?_,h.ob,h.inj,h.lt,h.out,h.mo,h.gl⟩
 rcases hs i s hs' with h1|h1
 ·subst h1;exact .dead
 ·exact h.slot i s v h1 hv
theorem killL_len:∀ (L:List Nat)(T:List SV),(killL L T).length=T.length
 | [],_=>rfl
 | a :: L,T=>by show (killL L (T.set a .dead)).length=_;rw [killL_len L];simp
theorem killL_get:∀ (L:List Nat)(T:List SV)(i:Nat),(killL L T)[i]?=if i ∈ L then (T[i]?).map (fun _=>SV.dead) else T[i]?
 | [],T,i=>by
  show T[i]?=_
  rw [if_neg (by simp)]
 | a :: L,T,i=>by
  show (killL L (T.set a .dead))[i]?=_
  rw [killL_get L]
  by_cases h:i=a
  ·subst h
   have hr:i ∈ i :: L:=by simp
   rw [if_pos hr]
   have:((T.set i .dead)[i]?)=(T[i]?).map (fun _=>SV.dead):=by
    rw [List.getElem?_set_self']
    cases T[i]? <;> rfl
   rw [this]
   split
   ·cases T[i]? <;> rfl
   ·rfl
  ·rw [List.getElem?_set_ne (Ne.symm h)]
   by_cases hL:i ∈ L
   ·rw [if_pos hL,if_pos (by simp [hL])]
   ·rw [if_neg hL,if_neg (by simp [hL,h])]
theorem get_filter (d:Nat)(p:Nat→Bool):∀ os:Obs,Obs.get0 (os.filter fun x=>p x.1) d=if p d=true then Obs.get0 os d else none
 | []=>by split <;> rfl
 | (e,o) :: os=>by
  have ih:=get_filter d p os
  have hg:Obs.get0 ((e,o) :: os) d=bif e==d then some o else Obs.get0 os d:=rfl
  rw [hg]
  cases hp:p e with
  | true =>
   rw [List.filter_cons_of_pos (by simpa using hp)]
   have hg2:Obs.get0 ((e,o) :: os.filter fun x=>p x.1) d=bif e==d then some o else Obs.get0 (os.filter fun x=>p x.1) d:=rfl
   rw [hg2]
   by_cases he:e=d
   ·subst he;simp [hp]
   ·rw [show (e==d)=false by simpa using he,cond_false,cond_false];exact ih
  | false =>
   rw [List.filter_cons_of_neg (by simp [hp]),ih]
   by_cases he:e=d
   ·subst he;simp [hp]
   ·rw [show (e==d)=false by simpa using he,cond_false]
theorem foldr_ins_get (B:Obs)(d:Nat)(hd:d≠HL):∀ os:Obs,Obs.get0 (os.foldr pushA B) d=match Obs.get0 os d with|some ob=>some ob|none=>Obs.get0 B d
 | []=>rfl
 | (e,o) :: os=>by
  rw [List.foldr_cons]
  show Obs.get0 (bif e==HL then Obs.setH (Obs.hps (os.foldr pushA B)++[o.he]) (os.foldr pushA B) else Obs.ins e o (os.foldr pushA B)) d=match (bif e==d then some o else Obs.get0 os d) with|some ob=>some ob|none=>Obs.get0 B d
  by_cases heH:e=HL
  ·subst heH
   rw [beq_self_eq_true,cond_true,Obs.get0_setH,if_neg hd,show (HL==d)=false by simpa using Ne.symm hd,cond_false]
   exact foldr_ins_get B d hd os
  ·rw [show (e==HL)=false by simpa using heH,cond_false,Obs.get0_ins]
   by_cases h:e=d
   ·rw [if_pos h,show (e==d)=true by simpa using h];rfl
   ·rw [if_neg h,show (e==d)=false by simpa using h,cond_false];exact foldr_ins_get B d hd os
/-- The heap behind it. -/
theorem foldr_heap (B:Obs):∀ os:Obs,(∀ x ∈ os,x.1≠HL→x.1 < HL)→((∀ ob,(HL,ob) ∉ os)→Obs.hps (os.foldr pushA B)=Obs.hps B)∧((∀ ob,(HL,ob) ∈ os→Obs.hasH B=true)→Obs.hasH (os.foldr pushA B)=Obs.hasH B) ∧
  (∀ ob,os.Pairwise (fun x y=>¬ (x.1=HL∧y.1=HL))→(HL,ob) ∈ os→Obs.hasH B=true→Obs.hps (os.foldr pushA B)=Obs.hps B++[ob.he])
 | [],_=>⟨fun _=>rfl,fun _=>rfl,fun ob _ h=>by simp at h⟩
 | (e,o) :: os,hlow=>by
  obtain ⟨i1,i2,i3⟩:=foldr_heap B os (fun x hx=>hlow x (List.mem_cons_of_mem _ hx))
  rw [List.foldr_cons]
  by_cases heH:e=HL
  ·subst heH
   have hp:pushA (HL,o) (os.foldr pushA B)=Obs.setH (Obs.hps (os.foldr pushA B)++[o.he]) (os.foldr pushA B):=by unfold pushA;rw [beq_self_eq_true,cond_true]
   rw [hp]
   refine ⟨fun h=>absurd (List.mem_cons_self) (h o),fun hhas=>?_,fun ob hpw hm hh=>?_⟩
   ·have h:=i2 fun ob h=>hhas ob (List.mem_cons_of_mem _ h)
    have hB:=hhas o List.mem_cons_self
    rw [hB] at h ⊢
    have:=hp_get h
    unfold Obs.hasH
    rw [Obs.get0_setH,if_pos rfl,this];rfl
   ·rw [List.pairwise_cons] at hpw
    have hno:∀ ob',(HL,ob') ∉ os:=fun ob' h=>hpw.1 _ h ⟨rfl,rfl⟩
    rcases List.mem_cons.1 hm with h|h
    ·injection h with _ h;subst h
     rw [setH_hps (by rw [i2 fun ob h=>absurd h (hno ob)];exact hh),i1 hno]
    ·exact absurd h (hno ob)
  ·have hel:e < HL:=hlow (e,o) List.mem_cons_self heH
   have hp:pushA (e,o) (os.foldr pushA B)=Obs.ins e o (os.foldr pushA B):=by unfold pushA;rw [show (e==HL)=false by simpa using heH,cond_false]
   rw [hp]
   refine ⟨fun h=>?_,fun hhas=>?_,fun ob hpw hm hh=>?_⟩
   ·rw [Obs.hps_ins hel];exact i1 fun ob hm=>h ob (List.mem_cons_of_mem _ hm)
   ·rw [hasH_ins hel];exact i2 fun ob h=>hhas ob (List.mem_cons_of_mem _ h)
   ·rw [List.pairwise_cons] at hpw
    rw [Obs.hps_ins hel]
    rcases List.mem_cons.1 hm with h|h
    ·injection h with h _;exact absurd h.symm heH
    ·exact i3 ob hpw.2 h hh
theorem get_append (d:Nat)(b:Obs):∀ a:Obs,Obs.get0 (a++b) d=match Obs.get0 a d with|some ob=>some ob|none=>Obs.get0 b d
 | []=>rfl
 | (e,o) :: a=>by
  show (bif e==d then some o else Obs.get0 (a++b) d)=match (bif e==d then some o else Obs.get0 a d) with|some ob=>some ob|none=>Obs.get0 b d
  cases e==d with
  | true=>rfl
  | false=>rw [cond_false,cond_false];exact get_append d b a
theorem get_not_mem {d:Nat}:∀ {a:Obs},Obs.get0 a d=none→∀ ob,(d,ob) ∉ a
 | [],_,ob,h=>by simp at h
 | (e,o) :: a,h,ob,hm=>by
  have h:(bif e==d then some o else Obs.get0 a d)=none:=h
  cases he:e==d with
  | true=>rw [he] at h;cases h
  | false =>
   rw [he,cond_false] at h
   rcases List.mem_cons.1 hm with hm|hm
   ·injection hm with h1 _
    subst h1
    simp at he
   ·exact get_not_mem h ob hm
/-- What was laid last. -/
theorem last_laid (d:Nat):∀ (n:Nat)(tr:List (SV × Obs)),tr.length=n→(∀ ob,Obs.get0 (((tr.map (·.2)).reverse).flatten) d=some ob→∃ (k:Nat)(x:SV × Obs),tr[k]?=some x∧(d,ob) ∈ x.2∧∀ (k':Nat)(x':SV × Obs),k < k'→tr[k']?=some x'→∀ ob',(d,ob') ∉ x'.2) ∧
  (Obs.get0 (((tr.map (·.2)).reverse).flatten) d=none→∀ (k:Nat)(x:SV × Obs),tr[k]?=some x→∀ ob,(d,ob) ∉ x.2)
 | 0,tr,hn=>by
  have:tr=[]:=List.length_eq_zero_iff.1 hn
  subst this
  exact ⟨fun ob h=>(by cases h),fun _ k x h=>(by simp at h)⟩
 | n+1,tr,hn=>by
  obtain ⟨tr',y,rfl⟩:∃ tr' y,tr=tr'++[y]:=by
   rcases List.eq_nil_or_concat tr with h|⟨l,b,h⟩
   ·subst h;simp at hn
   ·exact ⟨l,b,by rw [h,List.concat_eq_append]⟩
  have hn':tr'.length=n:=by simpa using hn
  obtain ⟨i1,i2⟩:=last_laid d n tr' hn'
  have e:(((tr'++[y]).map (·.2)).reverse).flatten=y.2++(((tr'.map (·.2)).reverse).flatten):=by simp
  rw [e,get_append]
  have at':∀ (k:Nat)(x:SV × Obs),(tr'++[y])[k]?=some x→(k < tr'.length∧tr'[k]?=some x)∨(k=tr'.length∧x=y):=by
   intro k x h
   rcases Nat.lt_trichotomy k tr'.length with hk|hk|hk
   ·rw [List.getElem?_append_left hk] at h;exact .inl ⟨hk,h⟩
   ·subst hk
    rw [List.getElem?_append_right (Nat.le_refl _)] at h
    simp at h
    exact .inr ⟨rfl,h.symm⟩
   ·rw [List.getElem?_eq_none (by simp;omega)] at h;cases h
  cases hy:Obs.get0 y.2 d with
  | some ob0 =>
   refine ⟨fun ob h=>?_,fun h=>(by cases h)⟩
   injection h with h
   subst h
   refine ⟨tr'.length,y,by simp,obs_mem hy,fun k' x' hk h=>?_⟩
   rcases at' k' x' h with ⟨h1,_⟩|⟨h1,_⟩ <;> omega
  | none =>
   refine ⟨fun ob h=>?_,fun h k x hk=>?_⟩
   ·obtain ⟨k,x,h1,h2,h3⟩:=i1 ob h
    have hkl:=get_lt h1
    refine ⟨k,x,by rw [List.getElem?_append_left hkl];exact h1,h2,fun k' x' hk h=>?_⟩
    rcases at' k' x' h with ⟨_,h4⟩|⟨_,rfl⟩
    ·exact h3 k' x' hk h4
    ·exact get_not_mem hy
   ·rcases at' k x hk with ⟨_,h4⟩|⟨_,rfl⟩
    ·exact i2 h k x h4
    ·exact get_not_mem hy

/-- Where only the plain end is asked for, what is asked of the other ends is of no matter. -/
theorem wpOp_Q {P:Program}{ops:Array Oper}{Q Q':Exit→Act→World→Prop}(hQ':∀ e a w,Q' e a w→e=.normal){i:Nat}{K:Act→World→Prop}{a:Act}{w:World}(h:wpOp P ops Q' i K a w):wpOp P ops Q i K a w:=by
 unfold wpOp at *
 split
 ·exact by simpa [*] using h
 ·rename_i o ho
  simp only [ho] at h
  split
  ·rename_i hw
   simp only [hw,if_true] at h
   rcases h with h|⟨_,a',w',h⟩
   ·left
    unfold Oper.wp at *
    generalize (execOp a.eval o).run P w=r at *
    cases r with
    | ok n w' =>
     cases n <;> simp only [Oper.upon] at h ⊢ <;>
      first
       | exact h
       | exact Calls.mono h (fun e w'' he=>by
         cases e with
         | returned v=>exact he
         | panicked c=>cases hQ' _ _ _ he
         | outgrown=>obtain ⟨_,_,he⟩:=he;cases hQ' _ _ _ he)
    | halt x w' =>
     cases x <;> simp only [Oper.upon] at h ⊢ <;> first|exact h|cases hQ' _ _ _ h
   ·cases hQ' _ _ _ h
  ·rename_i hw;simp only [hw] at h;exact h
theorem wpS_pre {P:Program}{ops:Array Oper}{Q:Exit→Act→World→Prop}{x y:Nat}{ks:List Nat}:∀ (pre:List Nat)(a:Act)(w:World),wpOps P ops (fun e a w=>e=.normal∧wpOp P ops Q x (wpOp P ops Q y (wpP P ops Q ks)) a w∧wpOp P ops Q y (wpOp P ops Q x (wpP P ops Q ks)) a w) pre a w→wpS P ops Q pre.length (pre++x :: y :: ks) a w
 | [],a,w,h=>h.2
 | k :: pre,a,w,h=>by
  rw [wpOps_cons] at h
  exact wpOp_mono (fun a w h=>wpS_pre pre a w h) (wpOp_Q (fun e a w h=>h.1) h)
theorem wpOps_two {P:Program}{ops:Array Oper}{Q:Exit→Act→World→Prop}{R:Act→World→Prop}{x y:Nat}{a:Act}{w:World}(h:wpOps P ops (fun e a w=>e=.normal∧R a w) [x,y] a w):wpOp P ops Q x (wpOp P ops Q y R) a w:=by
 rw [wpOps_cons] at h
 refine wpOp_mono (fun a w h=>?_) (wpOp_Q (fun e a w h=>h.1) h)
 rw [wpOps_cons] at h
 exact wpOp_mono (fun a w h=>h.2) (wpOp_Q (fun e a w h=>h.1) h)
theorem store_run {ops:Array Oper}{o:Oper}{t a:Nat}{v:Operand}(hop:o.op=.store t (.tmp a) v)(hd:o.dst=none)(hg:o.guard=none)(hm:E.mask 2=none){l:List Oper}{K:St→Option Out}{st:St}(hnh:∀ e i q,st.T.getD a .dead≠.hptr e i q) :
  execOps E ops (o :: l) K st=(match st.T.getD a .dead with
   | .ptr d q=>(match Obs.get st.B d with
    | some ob=>bif ob.typAt E.P q==some t then (match ob.putAt E.P t (st.get E.P t v) q with|some ob'=>execOps E ops l K { st with B:=Obs.ins d ob' (Obs.del d st.B) }|none=>none) else none
    | none=>none)
   | _=>none):=by
 have hk:dstKey o=2:=by unfold dstKey;rw [hd];rfl
 have hms:st.msk E 2=st:=by unfold St.msk;rw [hm]
 show (match o.guard with
  | none=>opX E o (st.msk E (dstKey o)) (execOps E ops l K)
  | some (j,want)=>_)=_
 rw [hg]
 simp only
 rw [hk,hms]
 unfold opX
 have h1:freezeOp E o st=st:=by unfold freezeOp;rw [hop]
 have h2:retireOp E o st=st:=by unfold retireOp;rw [hop]
 have h3:isE E o st=true:=by unfold isE;rw [hop]
 rw [h1,h2]
 simp only
 rw [h3,hd]
 show opE E o st (execOps E ops l K)=_
 have h4:hpEff E o st=false:=by
  unfold hpEff
  rw [hop]
  show (match st.T.getD a .dead with|.hptr _ _ _=>true|_=>false)=false
  split
  ·rename_i e i q h;exact absurd h (hnh e i q)
  ·rfl
 unfold opE
 rw [h4,cond_false]
 unfold opE0
 rw [hop]
 simp only
 rw [hd]
 rfl
theorem typ_low {P:Program}{B:Obs}{d:Nat}{o:Ob}{q:List Stp}{t:TypeId}(h:Obs.get B d=some o)(hq:(o.typAt P q==some t)=true):d < HL:=by
 refine get_low h (fun l hl=>?_) (fun t p hl=>?_) (fun t p hl=>?_) <;> subst hl <;> cases q <;> cases hq
theorem hok_ext {H H':List HE}{i:Nat}(h:H'[i]?=H[i]?)(e:TypeId)(q:List Stp):hok H' e i q=hok H e i q∧hget H' i q=hget H i q:=by
 have h1:hvarOf H' i=hvarOf H i:=by unfold hvarOf;rw [h]
 have h2:hrowOf H' i=hrowOf H i:=by unfold hrowOf;rw [h]
 cases hel:isEl q with
 | false =>
  obtain ⟨n1,n2,_,_,_⟩:=notEl (P:=default) hel
  rw [n1,n1,n2,n2,h1]
  exact ⟨by unfold hokV;rw [h],rfl⟩
 | true =>
  obtain ⟨n,q',rfl⟩:=isEl_true hel
  exact ⟨by show hokR H' e i n=hokR H e i n;unfold hokR;rw [h],by show ((hrowOf H' i).getD n.toNat .nil).get q'=((hrowOf H i).getD n.toNat .nil).get q';rw [h2]⟩

/-- A load from the heap, in a run. -/
theorem hload_run {ops:Array Oper}{o:Oper}{t a i1:Nat}(hop:o.op=.load t (.tmp a))(hd:o.dst=some i1)(hg:o.guard=none)(hm:E.mask (3 * i1+2)=none){l:List Oper}{K:St→Option Out}{st:St}{e:TypeId}{i:Nat}{q:List Stp}
  (hT:st.T.getD a .dead=.hptr e i q)(hty:(typH E.P e q==some t)=true)(hu:(E.P.underlying t).isSome=true)(hok:hok (Obs.hps st.B) e i q=true)(hlo:i1.blt lowB=true) :
  execOps E ops (o :: l) K st=execOps E ops l K (st.setT i1 (hv E.P t (hget (Obs.hps st.B) i q))):=by
 have hk1:dstKey o=3 * i1+2:=by unfold dstKey;rw [hd];rfl
 have hms:st.msk E (3 * i1+2)=st:=by unfold St.msk;rw [hm]
 show (match o.guard with
  | none=>opX E o (st.msk E (dstKey o)) (execOps E ops l K)
  | some (j,want)=>_)=_
 rw [hg]
 simp only
 rw [hk1,hms]
 unfold opX
 have hget:st.get E.P 0 (.tmp a)=.hptr e i q:=hT
 have hget2:st.get E.P o.type (.tmp a)=.hptr e i q:=hT
 have h1:freezeOp E o st=st:=by
  unfold freezeOp;rw [hop]
  simp only
  rw [hget]
 have h2:retireOp E o st=st:=by unfold retireOp;rw [hop]
 have h3:isE E o st=false:=by unfold isE;rw [hop]
 rw [h1,h2]
 simp only
 rw [h3,hd]
 simp only [Option.getD_some,hlo,Bool.not_true,cond_false]
 have h4:hpOp E o=false:=by unfold hpOp;rw [hop];simp
 unfold opQ
 rw [h4,cond_false]
 unfold opQ0
 rw [hop]
 simp only
 rw [hget2]
 simp only
 rw [hty,hu,hok]
 rfl

/-- append, in a run. -/
theorem happ_run {ops:Array Oper}{o:Oper}{args:Array Operand}{ats:Array TypeId}{j1:Nat}(hop:o.op=.call { callee:=.builtin .append,args:=args,argTypes:=ats })(hd:o.dst=some j1)(hg:o.guard=none)(hm:E.mask (3 * j1+2)=none){l:List Oper}{K:St→Option Out}{st:St}
  {t u:TypeId}{p p':PV}(hA:args.toList.map (st.get E.P o.type)=[.hval t p,.hval u p'])(hH:Obs.hasH st.B=true)(hlo:j1.blt lowB=true) :
  execOps E ops (o :: l) K st=(match (ats[0]?).bind E.P.underlying with
   | some (.slice e) =>
   (match zeroPV E.P e with
    | some _=>bif hokS (Obs.hps st.B) e p&&hokS (Obs.hps st.B) e p'&&refT E.P t&&(u==t)&&decide (e < E.P.types.size)&&decide (ats.size=2)&&(ats[0]?==some t)&&(ats[1]?==some t)&&(p.isRs || decide (0 < p'.rN))&&roomy (p.rN+p'.rN) (E.P.bytesOf e) then
      execOps E ops l K (({ st with B:=Obs.setH (hgone (Obs.hps st.B) p++[.row e (hels (Obs.hps st.B) p++hels (Obs.hps st.B) p')]) st.B }:St).setT j1 (.hval t (.rs (Obs.hps st.B).length (p.rN+p'.rN))))
     else none
    | none=>none)
   | _=>none):=by
 have hk1:dstKey o=3 * j1+2:=by unfold dstKey;rw [hd];rfl
 have hms:st.msk E (3 * j1+2)=st:=by unfold St.msk;rw [hm]
 show (match o.guard with
  | none=>opX E o (st.msk E (dstKey o)) (execOps E ops l K)
  | some (j,want)=>_)=_
 rw [hg]
 simp only
 rw [hk1,hms]
 unfold opX
 have h1:freezeOp E o st=st:=by unfold freezeOp;rw [hop]
 have h2:retireOp E o st=st:=by unfold retireOp;rw [hop]
 have h3:isE E o st=true:=by unfold isE;rw [hop]
 rw [h1,h2]
 simp only
 rw [h3,hd]
 simp only [Option.getD_some,hlo,Bool.not_true,cond_false,cond_true]
 have h4:hpEff E o st=true:=by
  unfold hpEff;rw [hop]
  simp only
  match hl:args.toList,hA with
  | x :: rest,hA =>
   rw [List.map_cons] at hA
   injection hA with hA _
   simp only
   rw [hA]
  | [],hA=>simp at hA
 unfold opE
 rw [h4,cond_true,hH,cond_true]
 unfold opEH
 rw [hop]
 simp only
 rw [hA]
 split
 ·rename_i e t' p1 u' p2 e1 h9 h10
  injection h9 with a1 a2;injection a1 with a3 a4;injection a2 with a5 _;injection a5 with a6 a7
  subst a3;subst a4;subst a6;subst a7
  rw [h10]
  simp only [hd]
  rfl
 ·rename_i hno
  split
  ·rename_i e h10
   exact absurd h10 (by
    intro h11
    exact hno _ _ _ _ _ rfl h11)
  ·rfl

theorem get_setT {st:St}{i:Nat}{s:SV}{P:Program}{t:TypeId}{x:Operand}(h:x≠.tmp i):(st.setT i s).get P t x=st.get P t x:=by
 cases x with
 | tmp j =>
  show (st.T.set i s).getD j .dead=st.T.getD j .dead
  rw [List.getD_eq_getElem?_getD,List.getD_eq_getElem?_getD,List.getElem?_set_ne (by intro e;subst e;exact h rfl)]
 | _=>rfl

def pairA (ops:Array Oper)(x y:Oper):Bool:=isAppT y&&(isLoadT x&&x.apart ops y)
/-- A load from the heap and an append may change places. -/
theorem swapA_sound (hL:laidOutB E.P=true)(hC:OracleOk E.P E.C){ops:Array Oper}{K:St→Option Out}{r:Out}{Q:Exit→Act→World→Prop}(hQ:∀ st a w,Inv E.P w0 F Mo st a w→K st=some r→Q .normal a w)
  {kx ky:Nat}{x y:Oper}(hx:ops[kx]?=some x)(hy:ops[ky]?=some y)(hp:pairA ops x y=true){st:St}{a:Act}{w:World}(hI:Inv E.P w0 F Mo st a w)(hs:swapA E st x y=true)(h:execOps E ops [x,y] K st=some r) :
  wpOps E.P ops Q [ky,kx] a w:=by
 unfold pairA at hp
 simp only [Bool.and_eq_true] at hp
 obtain ⟨hay,hlx,hap⟩:=hp
 obtain ⟨ap1,ap2,ap3⟩:=Oper.apart_spec hap
 unfold swapA at hs
 split at hs
 rotate_left
 ·cases hs
 rename_i t av args ats hox hoy
 split at hs
 rotate_left
 ·cases hs
 rename_i e i q t1 p u1 p' hT hA
 simp only [Bool.and_eq_true,Option.isNone_iff_eq_none,Bool.not_eq_true'] at hs
 obtain ⟨hH,⟨hlo1,hlo2⟩,⟨hm1,hm2⟩,⟨hty,hu⟩,hok,hne⟩:=hs
 obtain ⟨i1,hd1,hg1⟩:∃ i1,x.dst=some i1∧x.guard=none:=by
  unfold isLoadT at hlx
  rw [hox] at hlx
  simp only [Bool.and_eq_true,Option.isNone_iff_eq_none] at hlx
  obtain ⟨i1,h1⟩:=Option.isSome_iff_exists.1 hlx.1
  exact ⟨i1,h1,hlx.2⟩
 obtain ⟨j1,hd2,hg2⟩:∃ j1,y.dst=some j1∧y.guard=none:=by
  unfold isAppT at hay
  rw [hoy] at hay
  simp only [Bool.and_eq_true,Option.isNone_iff_eq_none] at hay
  obtain ⟨j1,h1⟩:=Option.isSome_iff_exists.1 hay.1
  exact ⟨j1,h1,hay.2⟩
 rw [hd1] at hlo1 hm1
 rw [hd2] at hlo2 hm2
 simp only [Option.getD_some] at hlo1 hlo2 hm1 hm2
 have hij:i1≠j1:=by
  intro h
  exact ap2 i1 hd1 (by rw [hd2,h])
 have hgA:∀ s,args.toList.map ((st.setT i1 s).get E.P y.type)=[.hval t1 p,.hval u1 p']:=by
  intro s
  rw [←hA]
  apply List.map_congr_left
  intro z hz
  refine get_setT fun hzi=>?_
  subst hzi
  exact ap1 i1 hd1 (looksAt_op (by rw [hoy];simp only [Op.operands,Call.operands];exact Array.mem_append_right _ (by simpa using hz)))
 rw [hload_run hox hd1 hg1 hm1 hT hty hu hok hlo1] at h
 rw [happ_run hoy hd2 hg2 hm2 (hgA _) hH hlo2] at h
 split at h
 rotate_left
 ·cases h
 rename_i el hel
 split at h
 rotate_left
 ·cases h
 rename_i z hz
 obtain ⟨hcond,h⟩:=cond_some h
 have hBe:(st.setT i1 (hv E.P t (hget (Obs.hps st.B) i q))).B=st.B:=rfl
 rw [hBe] at hcond h
 have hat:(hgone (Obs.hps st.B) p++[HE.row el (hels (Obs.hps st.B) p++hels (Obs.hps st.B) p')])[i]?=(Obs.hps st.B)[i]?:=by
  have hil:i < (Obs.hps st.B).length:=by
   have:(Obs.hps st.B)[i]?≠none:=by
    intro hn
    cases hel2:isEl q with
    | false =>
     obtain ⟨n1,_⟩:=notEl (P:=default) hel2
     rw [n1] at hok
     unfold hokV at hok
     rw [hn] at hok;cases hok
    | true =>
     obtain ⟨n,q',rfl⟩:=isEl_true hel2
     have hok:hokR (Obs.hps st.B) e i n=true:=hok
     unfold hokR at hok
     rw [hn] at hok;cases hok
   rcases Nat.lt_or_ge i (Obs.hps st.B).length with h|h
   ·exact h
   ·exact absurd (List.getElem?_eq_none h) this
  have hgl:(hgone (Obs.hps st.B) p).length=(Obs.hps st.B).length∧(hgone (Obs.hps st.B) p)[i]?=(Obs.hps st.B)[i]?:=by
   cases p with
   | rs k n =>
    have hki:k≠i:=by
     intro hk
     subst hk
     simp [PV.isRs,PV.rI] at hne
    exact ⟨by simp [hgone],by show ((Obs.hps st.B).set k .gone)[i]?=_;rw [List.getElem?_set_ne hki]⟩
   | _=>exact ⟨rfl,rfl⟩
  rw [List.getElem?_append_left (by rw [hgl.1];exact hil),hgl.2]
 obtain ⟨e1,e2⟩:=hok_ext hat e q
 -- the other way round
 have hswap:execOps E ops [y,x] (fun s=>some (s.T,s.B)) st=some ((st.T.set i1 (hv E.P t (hget (Obs.hps st.B) i q))).set j1 (.hval t1 (.rs (Obs.hps st.B).length (p.rN+p'.rN))),Obs.setH (hgone (Obs.hps st.B) p++[.row el (hels (Obs.hps st.B) p++hels (Obs.hps st.B) p')]) st.B):=by
  rw [happ_run hoy hd2 hg2 hm2 hA hH hlo2,hel]
  simp only
  rw [hz]
  simp only
  rw [hcond,cond_true]
  have hps2:Obs.hps (Obs.setH (hgone (Obs.hps st.B) p++[HE.row el (hels (Obs.hps st.B) p++hels (Obs.hps st.B) p')]) st.B)=hgone (Obs.hps st.B) p++[HE.row el (hels (Obs.hps st.B) p++hels (Obs.hps st.B) p')]:=setH_hps hH _
  have haj:Operand.tmp av≠.tmp j1:=by
   intro h
   injection h with h
   subst h
   exact ap3 av hd2 (looksAt_op (by rw [hox];simp [Op.operands]))
  have hT2:(({ T:=st.T,B:=Obs.setH (hgone (Obs.hps st.B) p++[HE.row el (hels (Obs.hps st.B) p++hels (Obs.hps st.B) p')]) st.B }:St).setT j1 (.hval t1 (.rs (Obs.hps st.B).length (p.rN+p'.rN)))).T.getD av .dead=.hptr e i q :=
   (get_setT (st:={ T:=st.T,B:=Obs.setH (hgone (Obs.hps st.B) p++[HE.row el (hels (Obs.hps st.B) p++hels (Obs.hps st.B) p')]) st.B }) (P:=E.P) (t:=0) haj).trans hT
  rw [hload_run (e:=e) (i:=i) (q:=q) hox hd1 hg1 hm1 hT2 hty hu (by show X.hok (Obs.hps (Obs.setH _ st.B)) e i q=true;rw [hps2,e1];exact hok) hlo1]
  show some (((st.T.set j1 _).set i1 (hv E.P t (hget (Obs.hps (Obs.setH _ st.B)) i q))),_)=_
  rw [hps2,e2,List.set_comm _ _ hij]
  rfl
 refine execOps_sound (Q:=Q) hL hC (fun s a w hIs he=>?_) [ky,kx] [y,x] (by simp [hx,hy]) hI hswap
 simp only [Option.some.injEq,Prod.mk.injEq] at he
 obtain ⟨he1,he2⟩:=he
 obtain ⟨T2,B2⟩:=s
 simp only at he1 he2
 subst he1;subst he2
 exact hQ _ a w hIs h
theorem swap_sound (hL:laidOutB E.P=true)(hC:OracleOk E.P E.C){ops:Array Oper}{K:St→Option Out}{r:Out}{Q:Exit→Act→World→Prop}(hQ:∀ st a w,Inv E.P w0 F Mo st a w→K st=some r→Q .normal a w)
  {kx ky:Nat}{x y:Oper}(hx:ops[kx]?=some x)(hy:ops[ky]?=some y)(sx:isStoreT x=true)(sy:isStoreT y=true){st:St}{a:Act}{w:World}(hI:Inv E.P w0 F Mo st a w)(hs:swapOk E st x y=true)(h:execOps E ops [x,y] K st=some r) :
  wpOps E.P ops Q [ky,kx] a w:=by
 unfold isStoreT at sx sy
 split at sx
 rotate_left
 ·cases sx
 rename_i tx ax vx hox
 split at sy
 rotate_left
 ·cases sy
 rename_i ty ay vy hoy
 simp only [Bool.and_eq_true,Option.isNone_iff_eq_none] at sx sy
 unfold swapOk at hs
 rw [hox,hoy] at hs
 simp only [Bool.and_eq_true,Option.isNone_iff_eq_none] at hs
 obtain ⟨hm,hs⟩:=hs
 split at hs
 rotate_left
 ·cases hs
 rename_i d1 q1 d2 q2 hT1 hT2
 rw [store_run hox sx.1 sx.2 hm (by rw [hT1];intro e i q h;cases h)] at h
 have hne:d1≠d2:=by simpa using hs
 rw [hT1] at h
 simp only at h
 cases hg1:Obs.get st.B d1 with
 | none=>rw [hg1] at h;cases h
 | some ob1 =>
  rw [hg1] at h
  simp only at h
  obtain ⟨ht1,h⟩:=cond_some h
  have hl1:=typ_low hg1 ht1
  cases hp1:ob1.putAt E.P tx (st.get E.P tx vx) q1 with
  | none=>rw [hp1] at h;cases h
  | some ob1' =>
   rw [hp1] at h
   simp only at h
   rw [store_run hoy sy.1 sy.2 hm (by simp only;rw [hT2];intro e i q h;cases h)] at h
   simp only at h
   rw [hT2] at h
   simp only at h
   have hget1:∀ e,Obs.get (Obs.ins d1 ob1' (Obs.del d1 st.B)) e=if d1=e then some ob1' else Obs.get st.B e:=by
    intro e
    rw [Obs.get_ins hl1,Obs.get_del hl1]
    by_cases he:d1=e
    ·rw [if_pos he,if_pos he]
    ·rw [if_neg he,if_neg he,if_neg he]
   rw [hget1,if_neg hne] at h
   cases hg2:Obs.get st.B d2 with
   | none=>rw [hg2] at h;cases h
   | some ob2 =>
    rw [hg2] at h
    simp only at h
    obtain ⟨ht2,h⟩:=cond_some h
    have hl2:=typ_low hg2 ht2
    have hgv:∀ (B':Obs)(P:Program)(t:TypeId)(z:Operand),({ T:=st.T,B:=B' }:St).get P t z=st.get P t z:=fun B' P t z=>by cases z <;> rfl
    rw [hgv] at h
    cases hp2:ob2.putAt E.P ty (st.get E.P ty vy) q2 with
    | none=>rw [hp2] at h;cases h
    | some ob2' =>
     rw [hp2] at h
     simp only at h
     -- the other way round
     have hget2:∀ e,Obs.get (Obs.ins d2 ob2' (Obs.del d2 st.B)) e=if d2=e then some ob2' else Obs.get st.B e:=by
      intro e
      rw [Obs.get_ins hl2,Obs.get_del hl2]
      by_cases he:d2=e
      ·rw [if_pos he,if_pos he]
      ·rw [if_neg he,if_neg he,if_neg he]
     have hswap:execOps E ops [y,x] (fun s=>some (s.T,s.B)) st=some (st.T,Obs.ins d1 ob1' (Obs.del d1 (Obs.ins d2 ob2' (Obs.del d2 st.B)))):=by
      rw [store_run hoy sy.1 sy.2 hm (by rw [hT2];intro e i q h;cases h),hT2]
      simp only
      rw [hg2]
      simp only
      rw [ht2,cond_true,hp2]
      simp only
      rw [store_run hox sx.1 sx.2 hm (by simp only;rw [hT1];intro e i q h;cases h)]
      simp only
      rw [hT1]
      simp only
      rw [hget2,if_neg (Ne.symm hne),hg1]
      simp only
      rw [ht1,cond_true,hgv,hp1]
      rfl
     refine execOps_sound (Q:=Q) hL hC (fun s a w hIs he=>?_) [ky,kx] [y,x] (by simp [hx,hy]) hI hswap
     simp only [Option.some.injEq,Prod.mk.injEq] at he
     obtain ⟨he1,he2⟩:=he
     refine hQ _ a w ?_ h
     obtain ⟨i1,β,i2,i3⟩:=hIs
     rw [he1,he2] at i2
     rw [he2] at i3
     have hext:∀ e,Obs.get (Obs.ins d1 ob1' (Obs.del d1 (Obs.ins d2 ob2' (Obs.del d2 st.B)))) e=Obs.get (Obs.ins d2 ob2' (Obs.del d2 (Obs.ins d1 ob1' (Obs.del d1 st.B)))) e:=by
      intro e
      rw [Obs.get_ins hl1,Obs.get_del hl1,hget2,Obs.get_ins hl2,Obs.get_del hl2,hget1]
      by_cases h1:d1=e
      ·have h2:¬ d2=e:=fun h=>hne (h1.trans h.symm)
       simp [h1,h2]
      ·by_cases h2:d2=e
       ·simp [h1,h2]
       ·simp [h1,h2]
     have hhh:Obs.hps (Obs.ins d1 ob1' (Obs.del d1 (Obs.ins d2 ob2' (Obs.del d2 st.B))))=Obs.hps (Obs.ins d2 ob2' (Obs.del d2 (Obs.ins d1 ob1' (Obs.del d1 st.B)))):=by
      rw [Obs.hps_ins hl1,Obs.hps_del hl1,Obs.hps_ins hl2,Obs.hps_del hl2,Obs.hps_ins hl2,Obs.hps_del hl2,Obs.hps_ins hl1,Obs.hps_del hl1]
     exact ⟨i1,β,i2.ext hhh hext,i3.ext hhh hext⟩
theorem load_run {ops:Array Oper}{o:Oper}{t a i:Nat}(hop:o.op=.load t (.tmp a))(hd:o.dst=some i)(hg:o.guard=none)(hm:E.mask (3 * i+2)=none){l:List Oper}{K:St→Option Out}{st:St}{d:Nat}{q:List Stp}{ob:Ob}{s:SV}
  (hT:st.T.getD a .dead=.ptr d q)(hob:Obs.get st.B d=some ob)(hs:ob.getAt E.P t q=s)(hk:plainSV s=true) :
  execOps E ops (o :: l) K st=bif i.blt lowB then (bif (ob.typAt E.P q==some t)&&(E.P.underlying t).isSome then execOps E ops l K (st.setT i s) else none) else none:=by
 have hk1:dstKey o=3 * i+2:=by unfold dstKey;rw [hd];rfl
 have hms:st.msk E (3 * i+2)=st:=by unfold St.msk;rw [hm]
 show (match o.guard with
  | none=>opX E o (st.msk E (dstKey o)) (execOps E ops l K)
  | some (j,want)=>_)=_
 rw [hg]
 simp only
 rw [hk1,hms]
 unfold opX
 have hget:st.get E.P 0 (.tmp a)=.ptr d q:=hT
 have hget2:st.get E.P o.type (.tmp a)=.ptr d q:=hT
 have h1:freezeOp E o st=st:=by
  unfold freezeOp;rw [hop]
  simp only
  rw [hget]
  simp only
  rw [hob]
  simp only
  rw [hs]
  cases s <;> first|rfl|(cases hk;done)
 have h2:retireOp E o st=st:=by unfold retireOp;rw [hop]
 have h3:isE E o st=false:=by unfold isE;rw [hop]
 rw [h1,h2]
 simp only
 rw [h3,hd]
 cases hlo:i.blt lowB with
 | false=>simp [hlo]
 | true =>
  simp only [Option.getD_some,hlo,Bool.not_true,cond_false,cond_true]
  have h4:hpOp E o=false:=by unfold hpOp;rw [hop];simp
  unfold opQ
  rw [h4,cond_false]
  unfold opQ0
  rw [hop]
  simp only
  rw [hget2]
  simp only
  rw [hob]
  simp only
  rw [hs]
  cases (ob.typAt E.P q==some t)&&(E.P.underlying t).isSome with
  | false=>rfl
  | true=>cases s <;> first|rfl|(cases hk;done)
theorem fa_run {ops:Array Oper}{o:Oper}{t a i f:Nat}(hop:o.op=.fieldAddr t (.tmp a) f)(hd:o.dst=some i)(hg:o.guard=none)(hm:E.mask (3 * i+2)=none){l:List Oper}{K:St→Option Out}{st:St}{d:Nat}{q:List Stp}{ob:Ob}{fs:Array Field}{fd:Field}
  (hT:st.T.getD a .dead=.ptr d q)(hu:E.P.underlying t=some (.struct fs))(hf:fs[f]?=some fd)(he:emptyT E.P fd.type=false)(hob:Obs.get st.B d=some ob)(ht:(ob.typAt E.P q==some t)=true)(hlo:i.blt lowB=true) :
  execOps E ops (o :: l) K st=execOps E ops l K (st.setT i (.ptr d (q++[.fld f]))):=by
 have hk1:dstKey o=3 * i+2:=by unfold dstKey;rw [hd];rfl
 have hms:st.msk E (3 * i+2)=st:=by unfold St.msk;rw [hm]
 show (match o.guard with
  | none=>opX E o (st.msk E (dstKey o)) (execOps E ops l K)
  | some (j,want)=>_)=_
 rw [hg]
 simp only
 rw [hk1,hms]
 unfold opX
 have hget2:st.get E.P o.type (.tmp a)=.ptr d q:=hT
 have h1:freezeOp E o st=st:=by unfold freezeOp;rw [hop]
 have h2:retireOp E o st=st:=by unfold retireOp;rw [hop]
 have h3:isE E o st=false:=by unfold isE;rw [hop]
 rw [h1,h2]
 simp only
 rw [h3,hd]
 simp only [Option.getD_some,hlo,Bool.not_true,cond_false]
 have h4:hpOp E o=false:=by unfold hpOp;rw [hop];simp
 unfold opQ
 rw [h4,cond_false]
 unfold opQ0
 rw [hop]
 simp only
 rw [hu]
 simp only
 rw [hf]
 simp only
 rw [he,cond_false,hget2]
 simp only
 rw [hob]
 simp only
 rw [ht,cond_true]
 rfl
theorem filterMap_inj {f:Oper→Option Nat}:∀ {l:List Oper},(l.filterMap f).Nodup→∀ {j k:Nat}{x y:Oper}{d:Nat},l[j]?=some x→l[k]?=some y→f x=some d→f y=some d→j=k
 | [],_,j,_,x,_,_,hx,_,_,_=>by simp at hx
 | o :: l,h,j,k,x,y,d,hx,hy,hdx,hdy=>by
  have hmem:∀ {k:Nat}{y:Oper},l[k]?=some y→f y=some d→d ∈ l.filterMap f:=fun hk hd=>List.mem_filterMap.2 ⟨_,List.mem_of_getElem? hk,hd⟩
  have htail:(l.filterMap f).Nodup:=by
   cases ho:f o with
   | none=>rw [List.filterMap_cons_none ho] at h;exact h
   | some e=>rw [List.filterMap_cons_some ho,List.nodup_cons] at h;exact h.2
  have hhead:∀ e,f o=some e→e ∉ l.filterMap f:=by
   intro e ho
   rw [List.filterMap_cons_some ho,List.nodup_cons] at h;exact h.1
  cases j with
  | zero =>
   have hx:o=x:=by simpa using hx
   subst hx
   cases k with
   | zero=>rfl
   | succ k=>exact absurd (hmem (by simpa using hy) hdy) (hhead d hdx)
  | succ j =>
   cases k with
   | zero =>
    have hy:o=y:=by simpa using hy
    subst hy
    exact absurd (hmem (by simpa using hx) hdx) (hhead d hdy)
   | succ k =>
    have:=filterMap_inj htail (j:=j) (k:=k) (by simpa using hx) (by simpa using hy) hdx hdy
    rw [this]
/-- Slots that are given what loads yield. -/
def setN (val:Nat→SV)(D:List Nat)(T:List SV):List SV:=D.foldl (fun T i=>T.set i (val i)) T
theorem setN_get (val:Nat→SV):∀ (D:List Nat)(T:List SV)(j:Nat),(setN val D T)[j]?=if j ∈ D then (T[j]?).map (fun _=>val j) else T[j]?
 | [],T,j=>by simp [setN]
 | i :: D,T,j=>by
  show (setN val D (T.set i (val i)))[j]?=_
  rw [setN_get val D]
  by_cases hij:i=j
  ·subst hij
   have h1:(T.set i (val i))[i]?=(T[i]?).map (fun _=>val i):=by
    rw [List.getElem?_set]
    by_cases hl:i < T.length
    ·simp [hl]
    ·simp [hl]
   rw [h1]
   by_cases h:i ∈ D
   ·simp only [h,if_true,List.mem_cons,true_or]
    cases T[i]? <;> rfl
   ·simp [h]
  ·rw [List.getElem?_set_ne hij]
   simp [List.mem_cons,Ne.symm hij]
theorem setN_snoc (val:Nat→SV)(D:List Nat)(T:List SV)(i:Nat):setN val (D++[i]) T=(setN val D T).set i (val i):=by simp [setN]
theorem setN_congr (val:Nat→SV){D D':List Nat}(T:List SV)(h:∀ i,i ∈ D ↔ i ∈ D'):setN val D T=setN val D' T:=by
 apply List.ext_getElem?
 intro j
 rw [setN_get,setN_get]
 by_cases hj:j ∈ D
 ·rw [if_pos hj,if_pos ((h j).1 hj)]
 ·rw [if_neg hj,if_neg fun h'=>hj ((h j).2 h')]
theorem setN_getD (val:Nat→SV)(D:List Nat)(T:List SV){j:Nat}(h:j ∉ D):(setN val D T).getD j .dead=T.getD j .dead:=by
 rw [List.getD_eq_getElem?_getD,List.getD_eq_getElem?_getD,setN_get,if_neg h]

theorem loads_sound (hL:laidOutB E.P=true)(hC:OracleOk E.P E.C){ops:Array Oper}{K:St→Option Out}{r:Out}{Q:Exit→Act→World→Prop}(hQ:∀ st a w,Inv E.P w0 F Mo st a w→K st=some r→Q .normal a w)
  (hsel:Region.noSelect ops=true)(hQn:∀ e a w,Q e a w→e=.normal)(hpure:PureY E.P ops Q)(hlt:∀ (j:Nat)(o:Oper),ops[j]?=some o→∀ e ∈ o.after,Region.binds .any e=true→e.on < j)
  {L:List Oper}{ks:List Nat}(hl:ks.map (fun k=>ops[k]?)=L.map some){X:List Oper}{y:Oper}{post:List Oper}(hld:loadsT L=some (X,y,post))(ht:LoadsOk ops X y ks)
  {st:St}{listed:Array Bool}{a:Act}{w:World}(hI:Inv E.P w0 F Mo st a w)(hok:loadsOk E ops st X y=true)(h:execOps E ops L K st=some r)
  (hpw:ks.Pairwise (· < ·))(hks:∀ k ∈ ks,k < ops.size∧tailAt ops k=true)(hs:listed.size=ops.size)(hc:Closed ops listed)(hli:∀ j,j < ops.size→(listed.getD j false=false ↔ j ∈ ks)) :
  wpAny E.P .any ops Q ks.length listed a w:=by
 -- the list's parts
 have hparts:L=X++y :: post∧(∀ x ∈ X,isQT x=true)∧isStoreT y=true:=by
  unfold loadsT at hld
  split at hld
  ·rename_i x0 X0 y0 post0 e1 e2
   obtain ⟨hy,hld⟩:=cond_some hld
   injection hld with hld;injection hld with a1 hld;injection hld with a2 a3
   subst a1;subst a2;subst a3
   refine ⟨?_,fun x hx=>?_,hy⟩
   ·have:=List.takeWhile_append_dropWhile (p:=isQT) (l:=L)
    rw [e1,e2] at this;exact this.symm
   ·rw [←e1] at hx
    exact List.all_eq_true.1 (List.all_takeWhile (l:=L) (p:=isQT)) x hx
  ·cases hld
 obtain ⟨rfl,hXl,hyst⟩:=hparts
 obtain ⟨kx,ky,kpost,rfl,hkx,hky,hkp⟩:∃ kx ky kpost,ks=kx++ky :: kpost∧kx.map (fun k=>ops[k]?)=X.map some∧ops[ky]?=some y∧kpost.map (fun k=>ops[k]?)=post.map some:=by
  rw [List.map_append] at hl
  obtain ⟨l1,l2,h1,h2,h3⟩:=List.map_eq_append_iff.1 hl
  match l2,h3 with
  | k :: l2,h3 =>
   simp only [List.map_cons,List.cons.injEq] at h3
   exact ⟨l1,k,l2,h1,h2,h3.1,h3.2⟩
  | [],h3=>simp at h3
 have hlen:X.length=kx.length:=by have:=congrArg List.length hkx;simpa using this.symm
 obtain ⟨hpost,htails,hapart,hstore,hwaits,haddr,hnd⟩:=ht
 have e1:(kx++ky :: kpost).drop (X.length+1)=kpost:=by rw [hlen,show kx++ky :: kpost=(kx++[ky])++kpost by simp];rw [List.drop_left' (by simp)]
 have e2:(kx++ky :: kpost).take (X.length+1)=kx++[ky]:=by rw [hlen,show kx++ky :: kpost=(kx++[ky])++kpost by simp];rw [List.take_left' (by simp)]
 have e3:(kx++ky :: kpost).take X.length=kx:=by rw [hlen,List.take_left' rfl]
 have e4:(kx++ky :: kpost).getD X.length 0=ky:=by rw [hlen,List.getD_eq_getElem?_getD,List.getElem?_append_right (Nat.le_refl _),Nat.sub_self];rfl
 rw [e1,e2] at hpost
 rw [e1] at htails
 rw [e3,e4] at hwaits
 obtain ⟨ty,b,vy,hoy⟩:=haddr
 have hyd:y.dst=none∧y.guard=none:=by
  unfold isStoreT at hyst
  rw [hoy] at hyst
  simpa only [Bool.and_eq_true,Option.isNone_iff_eq_none] using hyst
 unfold loadsOk at hok
 simp only [Bool.and_eq_true,List.all_eq_true,Option.isNone_iff_eq_none,Bool.or_eq_true] at hok
 obtain ⟨⟨hm2,hptr⟩,hX⟩:=hok
 have hXd:∀ x ∈ X,∃ i,x.dst=some i:=by
  intro x hx
  have hlx:=hXl x hx
  unfold isQT isLoadT isFaT at hlx
  rw [Bool.or_eq_true] at hlx
  rcases hlx with hlx|hlx
  ·split at hlx
   ·simp only [Bool.and_eq_true] at hlx;exact Option.isSome_iff_exists.1 hlx.1
   ·cases hlx
  ·split at hlx
   ·simp only [Bool.and_eq_true] at hlx;exact Option.isSome_iff_exists.1 hlx.1
   ·cases hlx
 -- the loads by their places
 have hxk:∀ k ∈ kx,∃ x ∈ X,ops[k]?=some x∧(k,x) ∈ kx.zip X:=by
  intro k hk
  obtain ⟨i,hi⟩:=List.getElem?_of_mem hk
  have h1:(kx.map fun k=>ops[k]?)[i]?=some ops[k]?:=by rw [List.getElem?_map,hi];rfl
  rw [hkx,List.getElem?_map] at h1
  cases hXi:X[i]? with
  | none=>rw [hXi] at h1;cases h1
  | some x =>
   rw [hXi] at h1
   injection h1 with h1
   refine ⟨x,List.mem_of_getElem? hXi,h1.symm,?_⟩
   refine List.mem_of_getElem? (i:=i) ?_
   rw [List.getElem?_zip_eq_some]
   exact ⟨hi,hXi⟩
 have hdk:∀ k ∈ kx,∀ k' ∈ kx,∀ x x' i,ops[k]?=some x→ops[k']?=some x'→x.dst=some i→x'.dst=some i→k=k':=by
  intro k hk k' hk' x x' i h1 h2 h3 h4
  obtain ⟨n,hn⟩:=List.getElem?_of_mem hk
  obtain ⟨n',hn'⟩:=List.getElem?_of_mem hk'
  have q:∀ {n k:Nat}{x:Oper},kx[n]?=some k→ops[k]?=some x→X[n]?=some x:=by
   intro n k x hn hx
   have h1:(kx.map fun k=>ops[k]?)[n]?=some ops[k]?:=by rw [List.getElem?_map,hn];rfl
   rw [hkx,List.getElem?_map,hx] at h1
   cases hXi:X[n]? with
   | none=>rw [hXi] at h1;cases h1
   | some x'=>rw [hXi] at h1;injection h1
  have:=filterMap_inj hnd (q hn h1) (q hn' h2) h3 h4
  subst this
  rw [hn] at hn';injection hn'
 -- what each load yields
 let val:Nat→SV:=fun i=>match X.find? (fun x=>x.dst==some i) with|some x=>(loadV E st x).getD .dead|none=>.dead
 have hval:∀ x ∈ X,∀ i,x.dst=some i→loadV E st x=some (val i):=by
  intro x hx i hi
  obtain ⟨v,hv⟩:=Option.isSome_iff_exists.1 (hX x hx).2.1
  have hf:∃ x',X.find? (fun x=>x.dst==some i)=some x':=by
   rw [←Option.isSome_iff_exists,List.find?_isSome]
   exact ⟨x,hx,by simp [hi]⟩
  obtain ⟨x',hx'⟩:=hf
  have h1:x'.dst=some i:=by simpa using List.find?_some hx'
  have h2:=List.mem_of_find?_eq_some hx'
  obtain ⟨n,hn⟩:=List.getElem?_of_mem hx
  obtain ⟨n',hn'⟩:=List.getElem?_of_mem h2
  have:=filterMap_inj hnd hn hn' hi h1
  subst this
  rw [hn] at hn';injection hn' with hn';subst hn'
  show loadV E st x=some (match X.find? (fun x=>x.dst==some i) with|some x=>(loadV E st x).getD .dead|none=>.dead)
  rw [hx']
  show loadV E st x=some ((loadV E st x).getD .dead)
  rw [hv];rfl
 have hsl:∀ i,(∃ z ∈ X,z.dst=some i)→(match X.find? (fun x=>x.dst==some i) with|some x=>(loadV E st x).getD .dead|none=>st.T.getD i .dead)=val i:=by
  rintro i ⟨z,hz,hzi⟩
  have hf:∃ x',X.find? (fun x=>x.dst==some i)=some x':=by
   rw [←Option.isSome_iff_exists,List.find?_isSome]
   exact ⟨z,hz,by simp [hzi]⟩
  obtain ⟨x',hx'⟩:=hf
  show _=(match X.find? (fun x=>x.dst==some i) with|some x=>(loadV E st x).getD .dead|none=>.dead)
  rw [hx']
 -- one load
 have F1:∀ x ∈ X,∀ i,x.dst=some i→∀ (D:List Nat)(B:Obs),(∀ j ∈ D,∃ z ∈ X,z.dst=some j)→i ∉ D→(∀ a d q,qslot x=some a→st.T.getD a .dead=.ptr d q→Obs.get B d=Obs.get st.B d) →
   ∀ (l:List Oper)(K:St→Option Out),execOps E ops (x :: l) K { T:=setN val D st.T,B:=B }=execOps E ops l K { T:=setN val (D++[i]) st.T,B:=B }:=by
  intro x hx i hi D B hD hiD hB l K
  have hv:=hval x hx i hi
  obtain ⟨hmx,_,_⟩:=hX x hx
  rw [hi] at hmx
  have haD:∀ a,qslot x=some a→a ∉ D:=by
   intro a hq ha
   obtain ⟨z,hz,hzd⟩:=hD a ha
   rcases hapart z hz x hx with h|h
   ·exact hiD (by rw [hzd,hi] at h;injection h with h;subst h;exact ha)
   ·refine (Oper.apart_spec h).1 a hzd (looksAt_op ?_)
    unfold qslot at hq
    split at hq
    ·rename_i hop;injection hq with hq;subst hq;rw [hop];simp [Op.operands]
    ·rename_i hop;injection hq with hq;subst hq;rw [hop];simp [Op.operands]
    ·cases hq
  have hlx:=hXl x hx
  have hgd:x.guard=none:=by
   unfold isQT isLoadT isFaT at hlx
   rw [Bool.or_eq_true] at hlx
   rcases hlx with hlx|hlx
   ·split at hlx
    ·simp only [Bool.and_eq_true,Option.isNone_iff_eq_none] at hlx;exact hlx.2
    ·cases hlx
   ·split at hlx
    ·simp only [Bool.and_eq_true,Option.isNone_iff_eq_none] at hlx;exact hlx.2
    ·cases hlx
  unfold loadV at hv
  split at hv
  ·rename_i t a hop
   have hqs:qslot x=some a:=by unfold qslot;rw [hop]
   split at hv
   rotate_left
   ·cases hv
   rename_i d q hT
   split at hv
   rotate_left
   ·cases hv
   rename_i ob hob
   obtain ⟨hcond,hv⟩:=cond_some hv
   simp only [Bool.and_eq_true] at hcond
   injection hv with hv
   have hT':(setN val D st.T).getD a .dead=.ptr d q:=by rw [setN_getD val D st.T (haD a hqs)];exact hT
   rw [load_run (st:={ T:=setN val D st.T,B:=B }) hop hi hgd hmx hT' ((hB a d q hqs hT).trans hob) hv (by rw [←hv];exact hcond.2.2.1)]
   have hlo:i.blt lowB=true:=by have:=hcond.2.2.2;rw [hi] at this;exact this
   rw [hlo,cond_true,hcond.1,hcond.2.1]
   simp only [Bool.and_self,cond_true]
   rw [setN_snoc];rfl
  ·rename_i t a f hop
   have hqs:qslot x=some a:=by unfold qslot;rw [hop]
   split at hv
   rotate_left
   ·cases hv
   rename_i d q hT
   split at hv
   rotate_left
   ·cases hv
   rename_i fs hu
   split at hv
   rotate_left
   ·cases hv
   rename_i fd hf
   split at hv
   rotate_left
   ·cases hv
   rename_i ob hob
   obtain ⟨hcond,hv⟩:=cond_some hv
   simp only [Bool.and_eq_true,Bool.not_eq_true'] at hcond
   injection hv with hv
   have hT':(setN val D st.T).getD a .dead=.ptr d q:=by rw [setN_getD val D st.T (haD a hqs)];exact hT
   have hlo:i.blt lowB=true:=by have:=hcond.2.2;rw [hi] at this;exact this
   rw [fa_run (st:={ T:=setN val D st.T,B:=B }) hop hi hgd hmx hT' hu hf hcond.1 ((hB a d q hqs hT).trans hob) hcond.2.1 hlo,hv]
   rw [setN_snoc];rfl
  ·cases hv
 have FL:∀ (X2:List Oper),(∀ x ∈ X2,x ∈ X)→(X2.filterMap (·.dst)).Nodup→∀ (D:List Nat),(∀ j ∈ D,∃ z ∈ X,z.dst=some j)→(∀ x ∈ X2,∀ i,x.dst=some i→i ∉ D)→∀ (l:List Oper)(K:St→Option Out),
   execOps E ops (X2++l) K { T:=setN val D st.T,B:=st.B }=execOps E ops l K { T:=setN val (D++X2.filterMap (·.dst)) st.T,B:=st.B }:=by
  intro X2
  induction X2 with
  | nil=>intro _ _ D _ _ l K;simp
  | cons x X2 ih =>
   intro h1 h2 D h3 h4 l K
   have hx:=h1 x (by simp)
   have hd:∃ i,x.dst=some i:=by
    exact hXd x hx
   obtain ⟨i,hi⟩:=hd
   rw [List.cons_append,F1 x hx i hi D st.B h3 (h4 x (by simp) i hi) (fun _ _ _ _ _=>rfl)]
   have e:(x :: X2).filterMap (·.dst)=i :: X2.filterMap (·.dst):=by rw [List.filterMap_cons,hi]
   rw [e,List.nodup_cons] at h2
   rw [ih (fun z hz=>h1 z (by simp [hz])) h2.2 (D++[i]) (fun j hj=>?_) (fun z hz j hj hm=>?_),e,List.append_assoc]
   ·rfl
   ·rcases List.mem_append.1 hj with h|h
    ·exact h3 j h
    ·have:j=i:=by simpa using h
     subst this;exact ⟨x,hx,hi⟩
   ·rcases List.mem_append.1 hm with h|h
    ·exact h4 z (by simp [hz]) j hj h
    ·have:j=i:=by simpa using h
     subst this
     exact h2.1 (List.mem_filterMap.2 ⟨z,hz,hj⟩)
 have h':=h
 have hnil:setN val [] st.T=st.T:=rfl
 have hst:st={ T:=setN val [] st.T,B:=st.B }:=rfl
 rw [hst,FL X (fun x hx=>hx) hnd [] (fun j hj=>by cases hj) (fun x _ i _ hi=>by cases hi),List.nil_append] at h'
 generalize hDX:X.filterMap (·.dst)=DX at h'
 have hDXm:∀ i,i ∈ DX ↔ ∃ z ∈ X,z.dst=some i:=fun i=>by rw [←hDX,List.mem_filterMap]
 -- the store
 have hslotg:∀ s2:SV,s2≠.dead→(setN val DX st.T).getD b .dead=s2→slotV E st X b=s2:=by
  intro s2 hs2 hTb
  unfold slotV
  by_cases hb:b ∈ DX
  ·have h1:=hTb
   rw [List.getD_eq_getElem?_getD,setN_get,if_pos hb] at h1
   cases hTb':st.T[b]? with
   | none=>rw [hTb'] at h1;exact absurd h1.symm hs2
   | some s =>
    rw [hTb'] at h1
    exact (hsl b ((hDXm b).1 hb)).trans h1
  ·have hf:X.find? (fun x=>x.dst==some b)=none:=by
    rw [List.find?_eq_none]
    intro x hx hxd
    exact hb ((hDXm b).2 ⟨x,hx,by simpa using hxd⟩)
   rw [hf]
   rw [setN_getD val DX st.T hb] at hTb
   exact hTb
 have hnh:∀ e i q,(setN val DX st.T).getD b .dead≠.hptr e i q:=by
  intro e i q he
  have h1:=hslotg _ (by intro h;cases h) he
  unfold ptrT at hptr
  rw [hoy] at hptr
  simp only at hptr
  rw [h1] at hptr
  cases hptr
 rw [store_run hoy hyd.1 hyd.2 hm2 hnh] at h'
 simp only at h'
 split at h'
 rotate_left
 ·cases h'
 rename_i dy qy hTb
 have hslot:slotV E st X b=.ptr dy qy:=hslotg _ (by intro h;cases h) hTb
 split at h'
 rotate_left
 ·cases h'
 rename_i oby hoby
 obtain ⟨htyp,h'⟩:=cond_some h'
 split at h'
 rotate_left
 ·cases h'
 rename_i oby' hput
 generalize hB1:Obs.ins dy oby' (Obs.del dy st.B)=B1 at h'
 have hB1get:∀ e,e≠dy→Obs.get B1 e=Obs.get st.B e:=by
  intro e he
  rw [←hB1,Obs.get_ins (typ_low hoby htyp),Obs.get_del (typ_low hoby htyp),if_neg (Ne.symm he),if_neg (Ne.symm he)]
 have F2:∀ (D:List Nat),(∀ i ∈ D,i ∈ DX)→(∀ x ∈ X,waitsD ops y x=true→∀ i,x.dst=some i→i ∈ D)→∀ (l:List Oper)(K:St→Option Out),execOps E ops (y :: l) K { T:=setN val D st.T,B:=st.B }=execOps E ops l K { T:=setN val D st.T,B:=B1 }:=by
  intro D hD hw l K
  have hsame:∀ k,k ∈ y.looksAt ops→(setN val D st.T).getD k .dead=(setN val DX st.T).getD k .dead:=by
   intro k hlk
   rw [List.getD_eq_getElem?_getD,List.getD_eq_getElem?_getD,setN_get,setN_get]
   by_cases hk:k ∈ DX
   ·obtain ⟨z,hz,hzd⟩:=(hDXm k).1 hk
    rcases hstore z hz with hw'|hap
    ·rw [if_pos hk,if_pos (hw z hz hw' k hzd)]
    ·exact absurd hlk ((Oper.apart_spec hap).1 k hzd)
   ·rw [if_neg hk,if_neg fun h=>hk (hD k h)]
  have hbT:=(hsame b (looksAt_op (by rw [hoy];simp [Op.operands]))).trans hTb
  rw [store_run hoy hyd.1 hyd.2 hm2 (by simp only;rw [hbT];intro e i q h;cases h)]
  simp only
  rw [hbT]
  simp only
  rw [hoby]
  simp only
  rw [htyp,cond_true]
  have hg:({ T:=setN val D st.T,B:=st.B }:St).get E.P ty vy=({ T:=setN val DX st.T,B:=st.B }:St).get E.P ty vy:=by
   cases vy with
   | tmp k =>
    exact hsame k (looksAt_op (by rw [hoy];simp [Op.operands]))
   | _=>rfl
  rw [hg,hput]
  simp only
  rw [hB1]
 have htwo:∀ x ∈ X,twoObs E st X x y=true→∀ a d q,qslot x=some a→st.T.getD a .dead=.ptr d q→Obs.get B1 d=Obs.get st.B d:=by
  intro x hx h2 a d q hq hT
  unfold twoObs at h2
  split at h2
  ·rename_i hop hoy'
   unfold qslot at hq
   rw [hop] at hq
   injection hq with hq;subst hq
   rw [hoy] at hoy'
   injection hoy' with u1 u2 u3
   injection u2 with u2;subst u2
   rw [hT,hslot] at h2
   exact hB1get d (by simpa using h2)
  ·cases h2
 -- in whatever order
 have hkl:∀ k ∈ kx++ky :: kpost,k < ops.size:=fun k hk=>(hks k hk).1
 have hpw1:=List.pairwise_append.1 hpw
 have hpw2:=List.pairwise_cons.1 hpw1.2.1
 have phase:∀ (n:Nat)(R:List Nat)(yd:Bool)(D:List Nat)(listed:Array Bool)(a:Act)(w:World),n=R.length+(if yd=true then 0 else 1) →
   R.Pairwise (· < ·)→(∀ k ∈ R,k ∈ kx)→(yd=true→∀ k ∈ R,∀ x,ops[k]?=some x→twoObs E st X x y=true) →
   (∀ i ∈ D,∃ k ∈ kx,k ∉ R∧∃ x,ops[k]?=some x∧x.dst=some i)→(∀ k ∈ kx,k ∉ R→∀ x i,ops[k]?=some x→x.dst=some i→i ∈ D) →
   listed.size=ops.size→Closed ops listed→(∀ j,j < ops.size→(listed.getD j false=false ↔ j ∈ R∨(yd=false∧j=ky)∨j ∈ kpost)) →
   Inv E.P w0 F Mo { T:=setN val D st.T,B:=if yd=true then B1 else st.B } a w→wpAny E.P .any ops Q (n+kpost.length) listed a w:=by
  intro n
  induction n with
  | zero =>
   intro R yd D listed a w hn hR hRk h2 hD1 hD2 hs hc hli hI
   cases yd with
   | false=>simp at hn
   | true =>
    have hR0:R=[]:=by cases R with|nil=>rfl|cons _ _=>simp at hn
    subst hR0
    rw [Nat.zero_add]
    have hsame:setN val D st.T=setN val DX st.T:=setN_congr val st.T fun i=>by
     rw [hDXm]
     constructor
     ·intro hi
      obtain ⟨k,hk,_,x,hx,hxi⟩:=hD1 i hi
      obtain ⟨x',hx',hx2,_⟩:=hxk k hk
      rw [hx] at hx2;injection hx2 with hx2;subst hx2
      exact ⟨x,hx',hxi⟩
     ·rintro ⟨z,hz,hzi⟩
      obtain ⟨n,hn⟩:=List.getElem?_of_mem hz
      have h1:(X.map some)[n]?=some (some z):=by rw [List.getElem?_map,hn];rfl
      rw [←hkx,List.getElem?_map] at h1
      cases hkn:kx[n]? with
      | none=>rw [hkn] at h1;cases h1
      | some k =>
       rw [hkn] at h1
       injection h1 with h1
       exact hD2 k (List.mem_of_getElem? hkn) (by simp) z i h1 hzi
    rw [if_pos rfl,hsame] at hI
    exact any_tail hsel hQn hpure hlt kpost none listed a w hpw2.2 (fun k hk=>hks k (by simp [hk])) hs hc (fun j hj=>by rw [hli j hj];simp) htails (wpOps_wpT kpost a w (execOps_sound hL hC hQ kpost post hkp hI h'))
  | succ n ih =>
   intro R yd D listed a w hn hR hRk h2 hD1 hD2 hs hc hli hI
   have getb:∀ i (b:Bool),i < ops.size→listed.getD i b=listed.getD i false:=by
    intro i b hi
    rw [Array.getD_eq_getD_getElem?,Array.getD_eq_getD_getElem?,Array.getElem?_eq_getElem (by omega)];rfl
   have hRn:R.Nodup:=hR.imp Nat.ne_of_lt
   -- the first one
   obtain ⟨k0,hk0m,hk0⟩:∃ k0,(k0 ∈ R∨(yd=false∧k0=ky))∧∀ j,(j ∈ R∨(yd=false∧j=ky)∨j ∈ kpost)→k0≤j:=by
    cases R with
    | nil =>
     cases yd with
     | true=>simp at hn
     | false =>
      refine ⟨ky,.inr ⟨rfl,rfl⟩,fun j hj=>?_⟩
      rcases hj with h|⟨_,h⟩|h
      ·cases h
      ·omega
      ·have:=hpw2.1 j h;omega
    | cons k R =>
     refine ⟨k,.inl (by simp),fun j hj=>?_⟩
     have hkx0:=hRk k (by simp)
     rcases hj with h|⟨_,h⟩|h
     ·rcases List.mem_cons.1 h with h|h
      ·omega
      ·have:=(List.pairwise_cons.1 hR).1 j h;omega
     ·have:=hpw1.2.2 k hkx0 ky (by simp);omega
     ·have:=hpw1.2.2 k hkx0 j (by simp [h]);omega
   have hk0all:k0 ∈ R∨(yd=false∧k0=ky)∨k0 ∈ kpost:=by
    rcases hk0m with h|h
    ·exact .inl h
    ·exact .inr (.inl h)
   have hk0l:k0 < ops.size:=by
    rcases hk0m with h|h
    ·exact hkl k0 (by simp [hRk k0 h])
    ·exact hkl k0 (by simp [h.2])
   have hready:k0 ∈ Region.ready .any ops listed:=mem_ready.2 ⟨by rw [getb k0 true hk0l];exact (hli k0 hk0l).2 hk0all,_,Array.getElem?_eq_getElem hk0l,fun e he hb=>by
    have hek:=hlt k0 _ (Array.getElem?_eq_getElem hk0l) e he hb
    cases hg:listed.getD e.on false with
    | true=>rfl
    | false =>
     have:=hk0 e.on ((hli e.on (by omega)).1 hg)
     omega⟩
   rw [show n+1+kpost.length=(n+kpost.length)+1 by omega]
   refine ⟨(fun h0=>by rw [h0] at hready;cases hready),fun i hi=>?_⟩
   obtain ⟨q1,o,ho,q2⟩:=mem_ready.1 hi
   have hil:=(Array.getElem?_eq_some_iff.1 ho).1
   rw [getb i true hil] at q1
   have hri:∀ o',ops[i]?=some o'→∀ e ∈ o'.after,Region.binds .any e=true→listed.getD e.on false=true:=fun o' ho' e he hb=>q2 e (by rw [ho] at ho';injection ho' with ho';rw [ho'];exact he) hb
   have hc':Closed ops (listed.setIfInBounds i true):=closed_set hc (by omega) hri
   have hset:∀ j,j < ops.size→((listed.setIfInBounds i true).getD j false=false ↔ listed.getD j false=false∧j≠i):=by
    intro j hj
    rw [getD_set _ _ _ _ (by omega)]
    by_cases hij:i=j
    ·subst hij;simp
    ·rw [if_neg hij]
     exact ⟨fun h=>⟨h,fun e=>hij e.symm⟩,fun h=>h.1⟩
   rcases (hli i hil).1 q1 with hiR|⟨hyd0,hiy⟩|hip
   ·-- a load
    have hikx:=hRk i hiR
    obtain ⟨x,hxX,hxo,_⟩:=hxk i hikx
    have hd:∃ d,x.dst=some d:=by
     exact hXd x hxX
    obtain ⟨d,hd⟩:=hd
    have hDX':∀ j ∈ D,∃ z ∈ X,z.dst=some j:=by
     intro j hj
     obtain ⟨k,hk,_,z,hz,hzj⟩:=hD1 j hj
     obtain ⟨z',hz',hz2,_⟩:=hxk k hk
     rw [hz] at hz2;injection hz2 with hz2;subst hz2
     exact ⟨z,hz',hzj⟩
    have hdD:d ∉ D:=by
     intro hdD
     obtain ⟨k,hk,hkR,z,hz,hzj⟩:=hD1 d hdD
     have:=hdk k hk i hikx z x d hz hxo hzj hd
     subst this;exact hkR hiR
    have hrun:=F1 x hxX d hd D (if yd=true then B1 else st.B) hDX' hdD (fun a d' q hop hT=>by
     cases hyd1:yd with
     | false=>rfl
     | true=>exact htwo x hxX (h2 hyd1 i hiR x hxo) a d' q hop hT) [] (fun s=>some (s.T,s.B))
    have hw:=execOps_sound (Q:=fun e a w=>e=Exit.normal∧Inv E.P w0 F Mo { T:=setN val (D++[d]) st.T,B:=if yd=true then B1 else st.B } a w) (K:=fun s=>some (s.T,s.B)) hL hC (fun s a w hIs he=>by
     have he:some (s.T,s.B)=some (setN val (D++[d]) st.T,if yd=true then B1 else st.B):=he
     injection he with he;injection he with he1 he2
     refine ⟨rfl,?_⟩
     rw [←he1,←he2];exact hIs) [i] [x] (by simp [hxo]) hI hrun
    rw [wpOps_cons] at hw
    refine wpOp_mono (fun a w hIn=>?_) (wpOp_Q (fun e a w h=>h.1) hw)
    refine ih (R.erase i) yd (D++[d]) _ a w ?_ (hR.sublist (List.erase_sublist ..)) (fun k hk=>hRk k (List.mem_of_mem_erase hk)) (fun hy k hk=>h2 hy k (List.mem_of_mem_erase hk)) (fun j hj=>?_) (fun k hk hkR x' j hx' hj=>?_) (by simpa using hs) hc' (fun j hj=>?_) hIn.2
    ·rw [List.length_erase_of_mem hiR]
     have:=List.length_pos_of_mem hiR
     omega
    ·rcases List.mem_append.1 hj with h|h
     ·obtain ⟨k,hk,hkR,z⟩:=hD1 j h
      exact ⟨k,hk,fun h=>hkR (List.mem_of_mem_erase h),z⟩
     ·have:j=d:=by simpa using h
      subst this
      exact ⟨i,hikx,fun h=>(hRn.mem_erase_iff.1 h).1 rfl,x,hxo,hd⟩
    ·by_cases hki:k=i
     ·subst hki
      rw [hxo] at hx';injection hx' with hx';subst hx'
      rw [hd] at hj;injection hj with hj;subst hj
      exact List.mem_append.2 (.inr (by simp))
     ·exact List.mem_append.2 (.inl (hD2 k hk (fun h=>hkR ((hRn.mem_erase_iff).2 ⟨hki,h⟩)) x' j hx' hj))
    ·rw [hset j hj,hli j hj,hRn.mem_erase_iff]
     constructor
     ·rintro ⟨h|h|h,hne⟩
      ·exact .inl ⟨hne,h⟩
      ·exact .inr (.inl h)
      ·exact .inr (.inr h)
     ·rintro (⟨hne,h⟩|h|h)
      ·exact ⟨.inl h,hne⟩
      ·exact ⟨.inr (.inl h),fun e=>by have:=hpw1.2.2 i hikx ky (by simp);omega⟩
      ·exact ⟨.inr (.inr h),fun e=>by have:=hpw1.2.2 i hikx j (by simp [h]);omega⟩
   ·-- the store
    subst hiy
    have hunw:∀ k ∈ R,∀ x,ops[k]?=some x→twoObs E st X x y=true∧waitsD ops y x=false:=by
     intro k hk x hx
     obtain ⟨x',hx'X,hx'o,hzip⟩:=hxk k (hRk k hk)
     rw [hx] at hx'o;injection hx'o with hx'o;subst hx'o
     have hnw:waitsD ops y x=false:=by
      cases hw:waitsD ops y x with
      | false=>rfl
      | true =>
       have hb:=hwaits (k,x) hzip hw
       have:=closed_bef hc hb hri
       have hkl':=hkl k (by simp [hRk k hk])
       rw [(hli k hkl').2 (.inl hk)] at this;cases this
     rcases (hX x hx'X).2.2 with h|h
     ·rw [hnw] at h;cases h
     ·exact ⟨h,hnw⟩
    rw [if_neg (by rw [hyd0];simp)] at hI
    have hrun:=F2 D (fun j hj=>by
     obtain ⟨k,hk,_,z,hz,hzj⟩:=hD1 j hj
     obtain ⟨z',hz',hz2,_⟩:=hxk k hk
     rw [hz] at hz2;injection hz2 with hz2;subst hz2
     exact (hDXm j).2 ⟨z,hz',hzj⟩) (fun x hx hw j hj=>by
     obtain ⟨n,hn⟩:=List.getElem?_of_mem hx
     have h1:(X.map some)[n]?=some (some x):=by rw [List.getElem?_map,hn];rfl
     rw [←hkx,List.getElem?_map] at h1
     cases hkn:kx[n]? with
     | none=>rw [hkn] at h1;cases h1
     | some k =>
      rw [hkn] at h1
      injection h1 with h1
      refine hD2 k (List.mem_of_getElem? hkn) (fun hkR=>?_) x j h1 hj
      rw [(hunw k hkR x h1).2] at hw;cases hw) [] (fun s=>some (s.T,s.B))
    have hw:=execOps_sound (Q:=fun e a w=>e=Exit.normal∧Inv E.P w0 F Mo { T:=setN val D st.T,B:=B1 } a w) (K:=fun s=>some (s.T,s.B)) hL hC (fun s a w hIs he=>by
     have he:some (s.T,s.B)=some (setN val D st.T,B1):=he
     injection he with he;injection he with he1 he2
     refine ⟨rfl,?_⟩
     rw [←he1,←he2];exact hIs) [i] [y] (by simp [hky]) hI hrun
    rw [wpOps_cons] at hw
    refine wpOp_mono (fun a w hIn=>?_) (wpOp_Q (fun e a w h=>h.1) hw)
    refine ih R true D _ a w ?_ hR hRk (fun _ k hk x hx=>(hunw k hk x hx).1) hD1 hD2 (by simpa using hs) hc' (fun j hj=>?_) (by rw [if_pos rfl];exact hIn.2)
    ·rw [hyd0] at hn;simp at hn ⊢;omega
    ·rw [hset j hj,hli j hj]
     constructor
     ·rintro ⟨h|h|h,hne⟩
      ·exact .inl h
      ·exact absurd h.2 hne
      ·exact .inr (.inr h)
     ·rintro (h|h|h)
      ·exact ⟨.inl h,fun e=>by have:=hpw1.2.2 j (hRk j h) i (by simp);omega⟩
      ·exact absurd h.1 (by simp)
      ·exact ⟨.inr (.inr h),fun e=>by have:=hpw2.1 j h;omega⟩
   ·exfalso
    have hb:Bef ops i k0:=hpost i hip k0 (by
     rcases hk0m with h|h
     ·simp [hRk k0 h]
     ·simp [h.2])
    have:=closed_bef hc hb hri
    rw [(hli k0 hk0l).2 hk0all] at this;cases this
 have hfin:=phase (kx.length+1) kx false [] listed a w (by simp) hpw1.1 (fun k hk=>hk) (fun h=>by cases h) (fun i hi=>by cases hi) (fun k hk hkR=>absurd hk hkR) hs hc (fun j hj=>by
  rw [hli j hj,List.mem_append,List.mem_cons]
  constructor
  ·rintro (h|h|h)
   ·exact .inl h
   ·exact .inr (.inl ⟨rfl,h⟩)
   ·exact .inr (.inr h)
  ·rintro (h|⟨_,h⟩|h)
   ·exact .inl h
   ·exact .inr (.inl h)
   ·exact .inr (.inr h)) (by rw [if_neg (by simp)];exact hI)
 rw [show (kx++ky :: kpost).length=kx.length+1+kpost.length by simp;omega]
 exact hfin
theorem execT_sound (hL:laidOutB E.P=true)(hC:OracleOk E.P E.C){ops:Array Oper}{K:St→Option Out}{r:Out}{Q:Exit→Act→World→Prop}(hQ:∀ st a w,Inv E.P w0 F Mo st a w→K st=some r→Q .normal a w)
  (ks:List Nat)(L:List Oper){st:St}{a:Act}{w:World}(hl:ks.map (fun k=>ops[k]?)=L.map some)(hI:Inv E.P w0 F Mo st a w)(hnl:loadsT L=none)(h:execT E ops L K st=some r):wpT E.P ops Q ((swapT ops L).map fun x=>x.1.length) ks a w:=by
 unfold execT at h
 rw [hnl] at h
 simp only at h
 cases hsw:swapT ops L with
 | none =>
  rw [hsw] at h
  exact wpOps_wpT ks a w (execOps_sound hL hC hQ ks L hl hI h)
 | some t =>
  obtain ⟨pre,x,y,post⟩:=t
  rw [hsw] at h
  simp only at h
  have hL2:∀ (L pre:List Oper),swapT ops L=some (pre,x,y,post)→L=pre++x :: y :: post∧pairT ops x y=true:=by
   intro L
   induction L with
   | nil=>intro pre h;cases h
   | cons a L ih =>
    intro pre h
    cases L with
    | nil=>cases h
    | cons b L =>
     unfold swapT at h
     cases hp:pairT ops a b with
     | true =>
      rw [hp,cond_true] at h
      injection h with h;injection h with e1 h;injection h with e2 h;injection h with e3 e4
      subst e1;subst e2;subst e3;subst e4
      exact ⟨rfl,hp⟩
     | false =>
      rw [hp,cond_false] at h
      split at h
      ·rename_i pre' x' y' post' h2
       injection h with h;injection h with e1 h;injection h with e2 h;injection h with e3 e4
       subst e1;subst e2;subst e3;subst e4
       obtain ⟨g1,g2⟩:=ih pre' h2
       exact ⟨by rw [g1];rfl,g2⟩
      ·cases h
  obtain ⟨rfl,hpair⟩:=hL2 L pre hsw
  obtain ⟨kpre,kx,ky,kpost,rfl,hpre,hx,hy,hpost⟩:∃ kpre kx ky kpost,ks=kpre++kx :: ky :: kpost∧kpre.map (fun k=>ops[k]?)=pre.map some∧ops[kx]?=some x∧ops[ky]?=some y∧kpost.map (fun k=>ops[k]?)=post.map some:=by
   rw [List.map_append] at hl
   obtain ⟨l1,l2,h1,h2,h3⟩:=List.map_eq_append_iff.1 hl
   match l2,h3 with
   | kx :: ky :: l2,h3 =>
    simp only [List.map_cons,List.cons.injEq] at h3
    exact ⟨l1,kx,ky,l2,h1,h2,h3.1,h3.2.1,h3.2.2⟩
   | [],h3=>simp at h3
   | [_],h3=>simp at h3
  have hlen:pre.length=kpre.length:=by have:=congrArg List.length hpre;simpa using this.symm
  show wpS E.P ops Q pre.length (kpre++kx :: ky :: kpost) a w
  rw [hlen]
  refine wpS_pre kpre a w (execOps_sound hL hC (fun st a w hI h=>?_) kpre pre hpre hI h)
  obtain ⟨hs,h⟩:=cond_some h
  have hQ':∀ st a w,Inv E.P w0 F Mo st a w→execOps E ops post K st=some r→(fun e a w=>e=Exit.normal∧wpP E.P ops Q kpost a w) Exit.normal a w:=fun st a w hI h=>⟨rfl,wpOps_wpT kpost a w (execOps_sound hL hC hQ kpost post hpost hI h)⟩
  refine ⟨rfl,wpOps_two (execOps_sound hL hC hQ' [kx,ky] [x,y] (by simp [hx,hy]) hI h),wpOps_two ?_⟩
  unfold pairT at hpair
  rw [Bool.and_eq_true,Bool.and_eq_true] at hpair
  obtain ⟨sy,sx,_⟩:=hpair
  exact swap_sound hL hC hQ' hx hy sx sy hI hs h
theorem any_head {P:Program}{ops:Array Oper}{Q:Exit→Act→World→Prop}(hQn:∀ e a w,Q e a w→e=.normal)(hlt:∀ (j:Nat)(o:Oper),ops[j]?=some o→∀ e ∈ o.after,Region.binds .any e=true→e.on < j)
  {h:Nat}(hh:∀ j,j < h→∀ i,j < i→i < ops.size→Bef ops i j) :
  ∀ (c k n:Nat){listed:Array Bool}{a:Act}{w:World},k+c=h→h≤ops.size→listed.size=ops.size→Closed ops listed→(∀ j,j < ops.size→listed.getD j false=decide (j < k)) →
   wpOps P ops (fun e a w=>e=.normal∧∀ listed:Array Bool,listed.size=ops.size→Closed ops listed→(∀ j,j < ops.size→listed.getD j false=decide (j < h))→wpAny P .any ops Q n listed a w) (List.range' k c) a w→wpAny P .any ops Q (c+n) listed a w
 | 0,k,n,listed,a,w,hk,hle,hs,hc,hl,hw=>by
  rw [Nat.zero_add]
  exact hw.2 listed hs hc (by intro j hj;rw [hl j hj,show k=h by omega])
 | c+1,k,n,listed,a,w,hk,hle,hs,hc,hl,hw=>by
  have hkl:k < ops.size:=by omega
  have hko:ops[k]?=some ops[k]:=Array.getElem?_eq_getElem hkl
  have getb:∀ i (b:Bool),i < ops.size→listed.getD i b=decide (i < k):=by
   intro i b hi
   rw [←hl i hi,Array.getD_eq_getD_getElem?,Array.getD_eq_getD_getElem?,Array.getElem?_eq_getElem (by omega)];rfl
  have hready:k ∈ Region.ready .any ops listed:=mem_ready.2 ⟨by rw [getb k true hkl];simp,_,hko,fun e he hb=>by
   have:=hlt k _ hko e he hb
   rw [hl _ (by omega)];simpa using this⟩
  rw [show c+1+n=(c+n)+1 by omega]
  refine ⟨(fun h0=>by rw [h0] at hready;cases hready),fun i hi=>?_⟩
  obtain ⟨h1,o,ho,h2⟩:=mem_ready.1 hi
  have hil:=(Array.getElem?_eq_some_iff.1 ho).1
  rw [getb i true hil] at h1
  have hki:k≤i:=by simpa using h1
  have hik:i=k:=by
   rcases Nat.lt_or_eq_of_le hki with hgt|he
   ·have:=closed_bef hc (hh k (by omega) i hgt hil) (fun o' ho' e he hb=>h2 e (by rw [ho] at ho';injection ho' with ho';rw [ho'];exact he) hb)
    rw [hl k hkl] at this;simp at this
   ·exact he.symm
  subst hik
  rw [List.range'_succ,wpOps_cons] at hw
  refine wpOp_Q (fun e a w h=>h.1) (wpOp_mono (fun a w hw=>?_) hw)
  refine any_head hQn hlt hh c (i+1) n (by omega) hle (by simpa using hs) (closed_set hc (by omega) fun o' ho' e he hb=>h2 e (by rw [ho] at ho';injection ho' with ho';rw [ho'];exact he) hb) (fun j hj=>?_) hw
  rw [getD_set _ _ _ _ (by omega)]
  by_cases hij:i=j
  ·subst hij;simp
  ·rw [if_neg hij,hl j hj]
   by_cases hj:j < i
   ·rw [decide_eq_true hj,decide_eq_true (by omega)]
   ·rw [decide_eq_false hj,decide_eq_false (by omega)]

theorem least {p:Nat→Prop}(h:∃ j,p j):∃ k,p k∧∀ j,j < k→¬ p j:=by
 obtain ⟨n,hn⟩:=h
 induction n using Nat.strongRecOn with
 | ind n ih =>
  by_cases h:∃ j,j < n∧p j
  ·obtain ⟨j,h1,h2⟩:=h
   exact ih j h1 h2
  ·exact ⟨n,hn,fun j hj hp=>h ⟨j,hj,hp⟩⟩
theorem unl_all {ops:Array Oper}{listed:Array Bool}:∀ {m:Nat},(∀ j,j < m→lateAt ops j=false→listed.getD j false=true)→unl ops listed m=0
 | 0,_=>rfl
 | m+1,h=>by
  unfold unl
  have h1:=unl_all (m:=m) fun j hj=>h j (by omega)
  rw [h1]
  cases hl:lateAt ops m with
  | true=>simp
  | false=>simp [h m (by omega) hl]
abbrev hok':=@X.hok
/-- What is known where a load and an append may change places. -/
theorem swapA_load {st:St}{x y:Oper}{t a i1:Nat}(hop:x.op=.load t (.tmp a))(hd:x.dst=some i1)(h:swapA E st x y=true) :
  ∃ e i q,st.T.getD a .dead=.hptr e i q∧Obs.hasH st.B=true∧i1.blt lowB=true∧E.mask (3 * i1+2)=none∧(typH E.P e q==some t)=true∧(E.P.underlying t).isSome=true∧X.hok (Obs.hps st.B) e i q=true:=by
 unfold swapA at h
 rw [hop] at h
 split at h
 ·rename_i t' a' args ats hop' _
  injection hop' with e1 e2
  injection e2 with e2
  subst e1;subst e2
  split at h
  ·rename_i e i q _ p _ p' hT _
   simp only [Bool.and_eq_true,Option.isNone_iff_eq_none,hd,Option.getD_some] at h
   exact ⟨e,i,q,hT,h.1,h.2.1.1,h.2.2.1.1,h.2.2.2.1.1,h.2.2.2.1.2,h.2.2.2.2.1⟩
  ·cases h
 ·cases h
theorem swapA_set {ops:Array Oper}{x y:Oper}{t a i1:Nat}(hop:x.op=.load t (.tmp a))(hd:x.dst=some i1)(ha:a≠i1)(hap:x.apart ops y=true){st:St}(s:SV):swapA E { st with T:=st.T.set i1 s } x y=swapA E st x y:=by
 have h1:(st.T.set i1 s).getD a .dead=st.T.getD a .dead:=by
  rw [List.getD_eq_getElem?_getD,List.getD_eq_getElem?_getD,List.getElem?_set_ne (Ne.symm ha)]
 unfold swapA
 rw [hop]
 cases hoy:y.op with
 | call c =>
  obtain ⟨callee,args,ats⟩:=c
  cases callee with
  | builtin b =>
   cases b with
   | append =>
    have h2:args.toList.map (({ st with T:=st.T.set i1 s }:St).get E.P y.type)=args.toList.map (st.get E.P y.type):=by
     apply List.map_congr_left
     intro z hz
     refine get_setT (st:=st) fun hzi=>?_
     subst hzi
     exact (Oper.apart_spec hap).1 i1 hd (looksAt_op (by rw [hoy];simp only [Op.operands,Call.operands];exact Array.mem_append_right _ (by simpa using hz)))
    simp only [h1,h2]
   | _=>rfl
  | _=>rfl
 | _=>rfl
/-- What is laid into the heap comes behind. -/
theorem foldr_pref (B:Obs):∀ os:Obs,(∀ x ∈ os,x.1≠HL→x.1 < HL)→(∀ x ∈ os,x.1=HL→Obs.hasH B=true)→∃ l,Obs.hps (os.foldr pushA B)=Obs.hps B++l
 | [],_,_=>⟨[],by simp⟩
 | (e,o) :: os,h1,h2=>by
  obtain ⟨l,hl⟩:=foldr_pref B os (fun x hx=>h1 x (List.mem_cons_of_mem _ hx)) (fun x hx=>h2 x (List.mem_cons_of_mem _ hx))
  rw [List.foldr_cons]
  by_cases he:e=HL
  ·subst he
   have hB:=h2 (HL,o) List.mem_cons_self rfl
   have hhas:=(foldr_heap B os (fun x hx=>h1 x (List.mem_cons_of_mem _ hx))).2.1 fun _ _=>hB
   have hp:pushA (HL,o) (os.foldr pushA B)=Obs.setH (Obs.hps (os.foldr pushA B)++[o.he]) (os.foldr pushA B):=by unfold pushA;rw [beq_self_eq_true,cond_true]
   rw [hp,setH_hps (by rw [hhas];exact hB),hl]
   exact ⟨l++[o.he],by simp⟩
  ·have hp:pushA (e,o) (os.foldr pushA B)=Obs.ins e o (os.foldr pushA B):=by unfold pushA;rw [show (e==HL)=false by simpa using he,cond_false]
   rw [hp,Obs.hps_ins (h1 (e,o) List.mem_cons_self he)]
   exact ⟨l,hl⟩

theorem draw_ok (hL:laidOutB E.P=true)(hC:OracleOk E.P E.C)(hm:E.P.follows .mixedOrders=true){ops:Array Oper}(hok:dOk ops=true):DrawOk E ops:=by
 intro w0 F Mo st a w K r Q0 hQ0 hI h id
 have D:=drawn_of hok
 refine wp_mono (Q:=fun e a w=>e=.normal∧Q0 .normal a w) ?_ (fun e a w h=>by obtain ⟨rfl,h⟩:=h;exact h)
 generalize hQdef:(fun e a w=>e=Exit.normal∧Q0 .normal a w:Exit→Act→World→Prop)=Q
 have hQ:∀ st a w,Inv E.P w0 F Mo st a w→K st=some r→Q .normal a w:=fun st a w hI h=>by rw [←hQdef];exact ⟨rfl,hQ0 st a w hI h⟩
 have hQn:∀ e a w,Q e a w→e=.normal:=fun e a w h=>by rw [←hQdef] at h;exact h.1
 unfold execD at h
 obtain ⟨hfa,h⟩:=cond_none h
 have hfa:∀ {j:Nat}{o:Oper},ops[j]?=some o→FaOk E.P o:=fun hj=>faOk_spec (by simpa using hfa) hj
 -- the head
 refine wp_region_any hm ?_
 have hle:nHead ops≤ops.size:=by
  have:nHead ops≤ops.toList.length:=by
   unfold nHead
   have:=(List.dropWhile_sublist (l:=ops.toList.reverse) (fun o=>!cloOp o)).length_le
   simpa using this
  rwa [Array.length_toList] at this
 have hI':Inv E.P w0 F Mo st a { w with drawn:=w.drawn+1 }:=by
  obtain ⟨h1,β,h2,h3⟩:=hI
  exact ⟨h1,β,h2.world (Nat.le_refl _) (fun _ _=>rfl),h3.world (Nat.le_refl _) (fun _ _=>rfl) rfl rfl⟩
 have hgf0:∀ j,(Array.replicate ops.size false).getD j false=false:=by
  intro j
  rw [Array.getD_eq_getD_getElem?,Array.getElem?_replicate]
  split <;> rfl
 suffices key:wpAny E.P .any ops Q (nHead ops+(ops.size - nHead ops)) (Array.replicate ops.size false) a { w with drawn:=w.drawn+1 } by rwa [Nat.add_sub_of_le hle] at key
 refine any_head (listed:=Array.replicate ops.size false) hQn D.lt (fun j hj=>(D.head j hj).2.2) (nHead ops) 0 (ops.size - nHead ops) (by omega) hle (by rw [Array.size_replicate]) (fun j o _ hj=>by rw [hgf0] at hj;cases hj) (fun j hj=>by rw [hgf0];exact (decide_eq_false (Nat.not_lt_zero j)).symm) ?_
 have hhead:=execOps_sound (Q:=fun e a w=>e=.normal∧∀ listed:Array Bool,listed.size=ops.size→Closed ops listed→(∀ j,j < ops.size→listed.getD j false=decide (j < nHead ops))→wpAny E.P .any ops Q (ops.size - nHead ops) listed a w) hL hC ?_ (List.range' 0 (nHead ops)) (ops.toList.take (nHead ops)) (by
  apply List.ext_getElem (by simp;omega)
  intro j h1 h2
  have hj:j < nHead ops:=by simpa using h1
  simp [show j < ops.size by omega]) hI' h
 ·exact hhead
 clear hI' hI h
 intro st a w hI h
 refine ⟨rfl,fun listed0 hls0 hlc0 hl0=>?_⟩
 simp only at h
 -- the state that the region starts in
 generalize hA:(ops.toList.filter fun o=>!skipOp ops o)=A at h
 have hI0:Inv E.P w0 F Mo (retireAll (A.filterMap fun o=>bif laysOp o then o.dst else none) (preFreeze E A st st)) a w:=by
  exact Inv.retireAll _ (Inv.preFreeze A hI)
 have hfree:∀ (j:Nat)(o:Oper),ops[j]?=some o→skipOp ops o=false→laysOp o=true→∀ d,o.dst=some d→Obs.get (retireAll (A.filterMap fun o=>bif laysOp o then o.dst else none) (preFreeze E A st st)).B d=none:=by
  intro j o hj hlt hl d hd
  refine retireAll_get_none _ (.inr ⟨List.mem_filterMap.2 ⟨o,?_,by rw [hl];exact hd⟩,by have:=(D.lo j o hj hlt).1;rw [hd] at this;exact lowHL this⟩)
  rw [←hA]
  exact List.mem_filter.2 ⟨by simpa using Array.mem_of_getElem? hj,by rw [hlt];rfl⟩
 generalize retireAll (A.filterMap fun o=>bif laysOp o then o.dst else none) (preFreeze E A st st)=st0 at h hI0 hfree
 obtain ⟨T0,B0⟩:=st0
 rw [←hA] at h
 obtain ⟨tr,t1,t2,t3⟩:=execA_trace hC.par ops.toList T0 [] h
 rw [List.append_nil] at t3
 simp only at t3
 obtain ⟨hcl0,t3⟩:=cond_some t3
 obtain ⟨hheld,t3⟩:=cond_some t3
 have htl:tr.length=ops.size:=by rw [t1,Array.length_toList]
 have toL:∀ {k:Nat}{o:Oper},ops.toList[k]?=some o→ops[k]?=some o:=fun h=>by rw [←Array.getElem?_toList];exact h
 have hmemL:∀ d,d ∈ linT ops ↔ ∃ (j:Nat)(o:Oper),ops[j]?=some o∧linOf ops o=some d:=by
  intro d
  unfold linT
  rw [List.mem_filterMap]
  constructor
  ·rintro ⟨o,ho,h⟩
   obtain ⟨j,hj⟩:=List.getElem?_of_mem ho
   exact ⟨j,o,toL hj,h⟩
  ·rintro ⟨j,o,ho,h⟩
   exact ⟨o,by simpa using Array.mem_of_getElem? ho,h⟩
 have hclean:Clean ops tr T0 B0:=by
  have key:∀ (j:Nat)(o:Oper)(d:Nat),ops[j]?=some o→linOf ops o=some d→(T0.all fun s=>!s.has d)=true∧((putAll ops ops.toList tr ops.toList.length T0).zipIdx.all fun x=>x.2==d || !x.1.has d)=true∧(B0.all fun x=>!x.2.has d)=true∧((((tr.map (·.2)).reverse).flatten).all fun x=>!x.2.has d)=true:=by
   intro j o d ho hl
   unfold linClean at hcl0
   have:=List.all_eq_true.1 hcl0 d ((hmemL d).2 ⟨j,o,ho,hl⟩)
   simp only [Bool.and_eq_true] at this
   exact ⟨this.1,this.2.1,this.2.2.1,this.2.2.2⟩
  refine ⟨fun j o d ho hl i s hs=>?_,fun j o d ho hl k y x i h1 h2 h3 h4 h5=>?_,fun j o d ho hl e ob hob=>?_,fun j o d ho hl k x e ob h1 h2=>?_⟩
  ·have:=List.all_eq_true.1 (key j o d ho hl).1 s (List.mem_of_getElem? hs)
   simpa using this
  ·have hin:=putAll_in ops ops.toList tr ops.toList.length T0 i k y x D.nd h1 h2 h3 (get_lt h1) h4
   have:=List.all_eq_true.1 (key j o d ho hl).2.1 (x.1,i) (by
    rw [List.mem_zipIdx_iff_getElem?];exact hin)
   simp only [Bool.or_eq_true,beq_iff_eq,Bool.not_eq_true'] at this
   rcases this with h|h
   ·exact absurd h h5
   ·exact h
  ·by_cases hel:e < HL
   ·rw [Obs.get_lo hel] at hob
    have:=List.all_eq_true.1 (key j o d ho hl).2.2.1 (e,ob) (obs_mem hob)
    simpa using this
   ·rw [Obs.get_hi hel] at hob
    rcases hiOf_some hob with ⟨_,l,_,h3⟩|⟨i,y,_,_,h3⟩
    ·subst h3;rfl
    ·rcases HE.ob_cases h3 with ⟨_,_,_,h⟩|⟨_,_,_,h⟩ <;> subst h <;> rfl
  ·have:=List.all_eq_true.1 (key j o d ho hl).2.2.2 (e,ob) (by
    rw [List.mem_flatten]
    exact ⟨x.2,by rw [List.mem_reverse,List.mem_map];exact ⟨x,List.mem_of_getElem? h1,rfl⟩,h2⟩)
   simpa using this
 -- the last operations
 generalize hks:((List.range ops.size).filter fun k=>tailAt ops k)=ks
 have hmem:∀ k,k ∈ ks ↔ k < ops.size∧tailAt ops k=true:=fun k=>by rw [←hks,List.mem_filter,List.mem_range]
 have hpw:ks.Pairwise (· < ·):=by rw [←hks];exact List.Pairwise.filter _ List.pairwise_lt_range
 have hmap:ks.map (fun k=>ops[k]?)=(ops.toList.filter fun o=>tailOp ops o&&!headOp ops o).map some:=by
  rw [←hks]
  have gen:∀ (l:List Nat)(l':List Oper),l.map (fun k=>ops[k]?)=l'.map some→(l.filter fun k=>tailAt ops k).map (fun k=>ops[k]?)=(l'.filter fun o=>tailOp ops o&&!headOp ops o).map some:=by
   intro l
   induction l with
   | nil=>intro l' h;cases l' with|nil=>rfl|cons _ _=>simp at h
   | cons k l ih =>
    intro l' h
    cases l' with
    | nil=>simp at h
    | cons o l' =>
     rw [List.map_cons,List.map_cons,List.cons.injEq] at h
     have:=ih l' h.2
     by_cases hl:(tailOp ops o&&!headOp ops o)=true
     ·rw [List.filter_cons_of_pos (by rw [tailAt_of h.1];exact hl),List.filter_cons_of_pos (p:=fun o=>tailOp ops o&&!headOp ops o) hl,List.map_cons,List.map_cons,this,h.1]
     ·rw [List.filter_cons_of_neg (by rw [tailAt_of h.1];exact hl),List.filter_cons_of_neg (p:=fun o=>tailOp ops o&&!headOp ops o) hl,this]
  exact gen _ _ (range_map ops)
 generalize hTm:killL (linT ops) (putAll ops ops.toList tr ops.toList.length T0)=Tm at t3 hheld
 generalize hBm:((((tr.map (·.2)).reverse).flatten).filter fun x=>x.1==HL || !(linT ops).contains x.1).foldr pushA B0=Bm at t3 hheld
 have hTml:Tm.length=T0.length:=by rw [←hTm,killL_len,putAll_len]
 have mid:∀ (X:Nat→Prop)(listed:Array Bool)(a:Act)(w:World),DI E w0 F Mo ops tr T0 B0 listed a w →
   (∀ (k:Nat)(y:Oper),ops.toList[k]?=some y→skipOp ops y=false→listed.getD k false=true∨(X k∧linOf ops y=none∧∀ x,tr[k]?=some x→x.2=[])) →
   ∀ Td:List SV,Td.length=T0.length→(∀ (i:Nat)(s:SV),Td[i]?=some s→s=.dead∨(Tm[i]?=some s∧∀ (k:Nat)(y:Oper),X k→ops.toList[k]?=some y→dstA ops y≠some i))→Inv E.P w0 F Mo { T:=Td,B:=Bm } a w:=by
  intro X listed a w hDI hallX Td hTdl hTd
  obtain ⟨hcl,hsz,honly,hheads,hdef,T,B,β,ht0,ht1,ht2,hb1,hb2,hb3,hhp,hR,hk⟩:=hDI
  have hGone:∀ d,Gone ops listed d ↔ d ∈ linT ops:=by
   intro d
   rw [hmemL]
   constructor
   ·rintro ⟨j,o,h1,h2,_⟩;exact ⟨j,o,h1,h2⟩
   ·rintro ⟨j,o,h1,h2⟩
    rcases hallX j o (by rw [Array.getElem?_toList];exact h1) (lin_tail h2).1 with h|⟨_,h,_⟩
    ·exact ⟨j,o,h1,h2,h⟩
    ·rw [h2] at h;cases h
  -- the slots and the objects of the run's end
  have hT:∀ i,i ∉ linT ops→(∀ (k:Nat)(y:Oper),X k→ops.toList[k]?=some y→dstA ops y≠some i)→T[i]?=(putAll ops ops.toList tr ops.toList.length T0)[i]?:=by
   intro i hi hXi
   by_cases hw:∃ (k:Nat)(y:Oper),ops.toList[k]?=some y∧dstA ops y=some i
   ·obtain ⟨k,y,hk1,hk2⟩:=hw
    have hkm:=get_lt hk1
    obtain ⟨xk,hxk⟩:∃ xk,tr[k]?=some xk:=⟨_,List.getElem?_eq_getElem (by omega)⟩
    have hlk:listed.getD k false=true:=by
     rcases hallX k y hk1 (dstA_some hk2).1 with h|⟨h,_⟩
     ·exact h
     ·exact absurd hk2 (hXi k y h hk1)
    by_cases hil:i < T0.length
    ·rw [ht2 k y xk i hk1 hxk hlk hk2 hil (fun h=>hi ((hGone i).1 h)),putAll_in ops ops.toList tr ops.toList.length T0 i k y xk D.nd hk1 hxk hk2 hkm hil]
    ·rw [List.getElem?_eq_none (show T.length≤i by omega),List.getElem?_eq_none (by rw [putAll_len];omega)]
   ·rw [ht1 i (fun k y h1 _ h3=>hw ⟨k,y,h1,h3⟩),putAll_out ops ops.toList tr ops.toList.length T0 i (fun k y _ h1 h3=>hw ⟨k,y,h1,h3⟩)]
  have hkA:∀ (k:Nat)(x:SV × Obs) d ob,tr[k]?=some x→(d,ob) ∈ x.2→listed.getD k false=true:=fun k x d ob h hm=>by
   have hkl:k < ops.toList.length:=by have:=get_lt h;omega
   have hak:=List.getElem?_eq_getElem hkl
   cases hkt:skipOp ops ops.toList[k] with
   | true=>rw [(t2 k _ x hak h).1 hkt] at hm;simp at hm
   | false =>
    rcases hallX k _ hak hkt with h'|⟨_,_,h'⟩
    ·exact h'
    ·rw [h' x h] at hm;simp at hm
  have hnoskip:∀ (k:Nat)(x:SV × Obs) d ob,tr[k]?=some x→(d,ob) ∈ x.2→listed.getD k false=true:=hkA
  -- the heap
  have hmemF:∀ x,x ∈ ((tr.map (·.2)).reverse).flatten ↔ ∃ (k:Nat)(y:SV × Obs),tr[k]?=some y∧x ∈ y.2:=by
   intro x
   rw [List.mem_flatten]
   constructor
   ·rintro ⟨l,hl,hx⟩
    rw [List.mem_reverse,List.mem_map] at hl
    obtain ⟨y,hy,rfl⟩:=hl
    obtain ⟨k,hk⟩:=List.getElem?_of_mem hy
    exact ⟨k,y,hk,hx⟩
   ·rintro ⟨k,y,hy,hx⟩
    exact ⟨y.2,by rw [List.mem_reverse,List.mem_map];exact ⟨y,List.mem_of_getElem? hy,rfl⟩,hx⟩
  have hfl:=foldr_heap B0 ((((tr.map (·.2)).reverse).flatten).filter fun x=>x.1==HL || !(linT ops).contains x.1) (fun x hx hne=>by
   obtain ⟨k,y,h1,h2⟩:=(hmemF x).1 (List.mem_filter.1 hx).1
   exact trace_low htl t2 h1 h2 hne)
  have hmF:∀ ob,(HL,ob) ∈ ((((tr.map (·.2)).reverse).flatten).filter fun x=>x.1==HL || !(linT ops).contains x.1) ↔ ∃ (k:Nat)(y:SV × Obs),tr[k]?=some y∧(HL,ob) ∈ y.2:=by
   intro ob
   rw [List.mem_filter,hmemF]
   exact ⟨fun h=>h.1,fun h=>⟨h,by simp⟩⟩
  have hpw2:((((tr.map (·.2)).reverse).flatten).filter fun x=>x.1==HL || !(linT ops).contains x.1).Pairwise (fun x y=>¬ (x.1=HL∧y.1=HL)):=by
   refine List.Pairwise.filter _ ?_
   rw [List.pairwise_flatten]
   refine ⟨fun l hl=>?_,?_⟩
   ·rw [List.mem_reverse,List.mem_map] at hl
    obtain ⟨y,hy,rfl⟩:=hl
    obtain ⟨k,hk⟩:=List.getElem?_of_mem hy
    by_cases hh:∃ ob,(HL,ob) ∈ y.2
    ·obtain ⟨ob,hob⟩:=hh
     rw [(heap_of htl t2 hk hob).1]
     simp
    ·refine List.pairwise_of_forall_mem_list fun x hx z _ hxz=>hh ⟨x.2,?_⟩
     have:x=(HL,x.2):=by rw [←hxz.1]
     rw [←this];exact hx
   ·rw [List.pairwise_reverse,List.pairwise_map,List.pairwise_iff_getElem]
    intro i j hi hj hij x hx y hy hxy
    have:=heap_one htl t2 (k:=i) (k':=j) (ob:=y.2) (ob':=x.2) (List.getElem?_eq_getElem hi) (by rw [←hxy.2];exact hy) (List.getElem?_eq_getElem hj) (by rw [←hxy.1];exact hx)
    omega
  have hhas:∀ ob,(HL,ob) ∈ ((((tr.map (·.2)).reverse).flatten).filter fun x=>x.1==HL || !(linT ops).contains x.1)→Obs.hasH B0=true:=by
   intro ob hm
   obtain ⟨k,y,h1,h2⟩:=(hmF ob).1 hm
   exact (heap_of htl t2 h1 h2).2.2
  have hBhas:Obs.hasH B=Obs.hasH (((((tr.map (·.2)).reverse).flatten).filter fun x=>x.1==HL || !(linT ops).contains x.1).foldr pushA B0):=by rw [hhp.1,hfl.2.1 hhas]
  have hBhps:Obs.hps B=Obs.hps (((((tr.map (·.2)).reverse).flatten).filter fun x=>x.1==HL || !(linT ops).contains x.1).foldr pushA B0):=by
   rcases hhp.2 with ⟨h1,h2⟩|⟨k,y,ob,h1,h2,h3,h4⟩
   ·rw [hfl.1 fun ob hm=>by
     obtain ⟨k,y,g1,g2⟩:=(hmF ob).1 hm
     exact h2 k y ob g1 (hkA k y _ _ g1 g2) g2]
    exact h1
   ·have hm:=(hmF ob).2 ⟨k,y,h1,by rw [h3];simp⟩
    rw [hfl.2.2 ob hpw2 hm (hhas ob hm)]
    exact h4
  have hB:∀ d,Obs.get B d=Obs.get (((((tr.map (·.2)).reverse).flatten).filter fun x=>x.1==HL || !(linT ops).contains x.1).foldr pushA B0) d:=by
   intro d
   by_cases hdl:d < HL
   rotate_left
   ·exact get_hi_eq hBhas hBhps hdl
   obtain ⟨l1,l2⟩:=last_laid d tr.length tr rfl
   rw [Obs.get_lo (B:=List.foldr _ _ _) hdl,foldr_ins_get B0 d (by omega),get_filter d (fun n=>n==HL || !(linT ops).contains n)]
   have hdH:(d==HL)=false:=by rw [beq_eq_false_iff_ne];omega
   rw [hdH,Bool.false_or,←Obs.get_lo (B:=B0) hdl]
   by_cases hdL:d ∈ linT ops
   ·rw [if_neg (by simpa using hdL)]
    simp only
    cases hg:Obs.get B0 d with
    | some ob=>exact hb1 d ob hdl hg
    | none =>
     cases hg2:Obs.get B d with
     | none=>rfl
     | some ob =>
      exfalso
      rcases hb3 d ob hdl hg2 with h|⟨_,_,_,_,_,h⟩
      ·rw [hg] at h;cases h
      ·exact h ((hGone d).2 hdL)
   rw [if_pos (by simpa using hdL)]
   cases hd:Obs.get0 (((tr.map (·.2)).reverse).flatten) d with
   | some ob =>
    obtain ⟨k,x,h1,h2,h3⟩:=l1 ob hd
    exact hb2 k x d ob hdl h1 (hkA k x d ob h1 h2) h2 (fun h=>hdL ((hGone d).1 h)) fun k' x' q1 q2 _=>h3 k' x' q1 q2
   | none =>
    have hno:=l2 hd
    simp only
    cases hg:Obs.get B0 d with
    | some ob=>exact hb1 d ob hdl hg
    | none =>
     cases hg2:Obs.get B d with
     | none=>rfl
     | some ob =>
      exfalso
      rcases hb3 d ob hdl hg2 with h|⟨k,x,h1,_,h3,_⟩
      ·rw [hg] at h;cases h
      ·exact hno k x h1 ob h3
  rw [hBm] at hBhps hB
  refine ⟨hdef,β,?_,hk.ext hBhps hB⟩
  refine (hR.weaken (T':=Td) (by omega) (fun i s hs=>?_)).ext hBhps hB
  rcases hTd i s hs with h|⟨h,hXi⟩
  ·exact .inl h
  ·rw [←hTm,killL_get] at h
   by_cases hi:i ∈ linT ops
   ·rw [if_pos hi] at h
    cases hp:(putAll ops ops.toList tr ops.toList.length T0)[i]? with
    | none=>rw [hp] at h;cases h
    | some s0=>rw [hp] at h;injection h with h;exact .inl h.symm
   ·rw [if_neg hi,←hT i hi hXi] at h
    exact .inr h
 -- all but the load that is held
 have fork:∀ (c:Nat),(∀ (listed:Array Bool)(a:Act)(w:World),unl ops listed ops.size=c→DI E w0 F Mo ops tr T0 B0 listed a w→wpAny E.P .any ops Q (c+ks.length) listed a w) →
   ∀ (listed:Array Bool)(a:Act)(w:World),unl ops listed ops.size=c+1→DI E w0 F Mo ops tr T0 B0 listed a w→(¬ ∃ j,j < ops.size∧listed.getD j false=false∧lateAt ops j=false∧heldAt ops j=false)→wpAny E.P .any ops Q ((c+ks.length)+1) listed a w:=by
  intro c ih listed a w hc hDI hone
  have hsz:=hDI.size
  have getb:∀ i (b:Bool),i < ops.size→listed.getD i b=listed.getD i false:=by
   intro i b hi
   rw [Array.getD_eq_getD_getElem?,Array.getD_eq_getD_getElem?,Array.getElem?_eq_getElem (by omega)];rfl
  obtain ⟨k,k1,k2,k3,_⟩:=unl_ex (show unl ops listed ops.size≠0 by omega)
  have hka:heldAt ops k=true:=by
   cases h:heldAt ops k with
   | true=>rfl
   | false=>exact absurd ⟨k,k1,k2,k3,h⟩ hone
  obtain ⟨ky,hK⟩:∃ ky,heldK ops=some (k,ky):=by
   unfold heldAt at hka
   split at hka
   ·rename_i kx ky hK
    have:kx=k:=by simpa using hka
    subst this
    exact ⟨ky,hK⟩
   ·cases hka
  obtain ⟨x,y,ks',hox,hoy,hlx,hay,hskx,hap,hksy,hbef,hno,hnl,hns⟩:=D.held k ky hK
  rw [hks] at hksy
  have hrest:∀ j,j < ops.size→lateAt ops j=false→j≠k→listed.getD j false=true:=by
   intro j hj hl hjk
   cases hg:listed.getD j false with
   | true=>rfl
   | false =>
    refine absurd ⟨j,hj,hg,hl,?_⟩ hone
    unfold heldAt
    rw [hK]
    simpa using Ne.symm hjk
  have hkyT:ky < ops.size∧tailAt ops ky=true:=(hmem ky).1 (by rw [hksy];simp)
  obtain ⟨xi,hxi⟩:∃ xi,tr[k]?=some xi:=⟨_,List.getElem?_eq_getElem (by omega)⟩
  have hkr:∀ e ∈ x.after,Region.binds .any e=true→listed.getD e.on false=true:=fun e he hb=>by
   have hlt:=D.lt k x hox e he hb
   rcases D.ahead k x hox hskx e he hb with h|h
   ·exact hDI.heads _ h
   ·exact hrest _ (by omega) h (by omega)
  have hready:k ∈ Region.ready .any ops listed:=mem_ready.2 ⟨by rw [getb k true k1];exact k2,_,hox,hkr⟩
  have hc0:c=0:=by
   have h1:=(unl_set (listed:=listed) (i:=k) (by omega) k2 k3 ops.size).2 k1
   have h2:unl ops (listed.setIfInBounds k true) ops.size=0:=unl_all fun j hj hl=>by
    rw [getD_set _ _ _ _ (by omega)]
    by_cases hkj:k=j
    ·rw [if_pos hkj]
    ·rw [if_neg hkj];exact hrest j hj hl (Ne.symm hkj)
   omega
  subst hc0
  refine ⟨(fun h0=>by rw [h0] at hready;cases hready),fun i hi=>?_⟩
  obtain ⟨h1,o,ho,h2⟩:=mem_ready.1 hi
  have hil:=(Array.getElem?_eq_some_iff.1 ho).1
  rw [getb i true hil] at h1
  have hdeps:∀ o',ops[i]?=some o'→∀ e ∈ o'.after,Region.binds .any e=true→listed.getD e.on false=true:=fun o' ho' e he hb=>h2 e (by rw [ho] at ho';injection ho' with ho';rw [ho'];exact he) hb
  cases hli:lateAt ops i with
  | false =>
   have hik:i=k:=by
    rcases Nat.decEq i k with h|h
    ·have:=hrest i hil hli h
     rw [h1] at this;cases this
    ·exact h
   subst hik
   rw [hox] at ho;injection ho with ho;subst ho
   refine hDI.step hL hC D htl hfree t2 hclean hox hskx hxi h1 h2 fun a' w' hDI'=>ih _ a' w' ?_ hDI'
   have:=(unl_set (listed:=listed) (i:=i) (by omega) h1 k3 ops.size).2 k1
   omega
  | true =>
   have hge:nHead ops≤i:=by
    rcases Nat.lt_or_ge i (nHead ops) with hlt|hge
    ·rw [hDI.heads i hlt] at h1;cases h1
    ·exact hge
   have hik:i ∈ ks:=(hmem i).2 ⟨hil,D.kinds i hge hil hli⟩
   rw [hksy] at hik
   rcases List.mem_cons.1 hik with hik|hik
   rotate_left
   ·exfalso
    have:=closed_bef hDI.closed (hbef i hik).1 hdeps
    rw [k2] at this;cases this
   subst hik
   rw [hoy] at ho;injection ho with ho;subst ho
   -- what the load yields
   obtain ⟨tt,av,hopx⟩:∃ tt av,x.op=.load tt (.tmp av):=by
    unfold isLoadT at hlx
    split at hlx
    ·rename_i tt av h;exact ⟨tt,av,h⟩
    ·cases hlx
   obtain ⟨i1,hd1⟩:∃ i1,x.dst=some i1:=by
    unfold isLoadT at hlx
    rw [hopx] at hlx
    simp only [Bool.and_eq_true] at hlx
    exact Option.isSome_iff_exists.1 hlx.1
   unfold heldOk at hheld
   rw [hK] at hheld
   simp only at hheld
   rw [hox,hoy] at hheld
   simp only [Bool.and_eq_true,Bool.not_eq_true',hopx,hd1,Option.getD_some] at hheld
   obtain ⟨hsw,hnlin,hav⟩:=hheld
   have hav:av≠i1:=by simpa using hav
   have hnlin:i1 ∉ linT ops:=by simpa using hnlin
   have hjx:ops.toList[k]?=some x:=by rw [Array.getElem?_toList];exact hox
   obtain ⟨e,iE,q,hTa,hhas,hlo1,hm1,hty,hu,hok⟩:=swapA_load hopx hd1 hsw
   -- its address,when it stood
   have hdax:dstA ops x=some i1:=(dstA_of hskx).trans hd1
   have hTav:(putAll ops ops.toList tr k T0).getD av .dead=.hptr e iE q:=by
    have h1:Tm.getD av .dead=(putAll ops ops.toList tr ops.toList.length T0).getD av .dead:=by
     refine getD_of_get ?_
     rw [←hTm,killL_get,if_neg]
     intro hlin
     obtain ⟨j',o',h1,h2⟩:=(hmemL av).1 hlin
     refine D.lin j' o' av h1 h2 k x hox (fun h=>?_) (looksAt_op (by rw [hopx];simp [Op.operands]))
     subst h
     rw [hox] at h1;injection h1 with h1;subst h1
     obtain ⟨_,_,_,_,h3⟩:=lin_tail h2
     rw [hopx] at h3;cases h3
    rw [←hTa,h1]
    refine (getD_of_get ?_).symm
    by_cases hw:∃ (k':Nat)(y':Oper),ops.toList[k']?=some y'∧dstA ops y'=some av
    ·obtain ⟨k',y',hk1,hk2⟩:=hw
     obtain ⟨xk,hxk⟩:∃ xk,tr[k']?=some xk:=⟨_,List.getElem?_eq_getElem (by have:=get_lt hk1;omega)⟩
     have hlt:k' < k:=by
      rcases Nat.lt_trichotomy k' k with h|h|h
      ·exact h
      ·subst h
       rw [hjx] at hk1;injection hk1 with hk1;subst hk1
       rw [hdax] at hk2;injection hk2 with hk2;exact absurd hk2.symm hav
      ·exfalso
       rcases D.ap k k' x y' h hox (toL hk1) hskx (dstA_some hk2).1 with hbb|haa
       ·have:=bef_listed hDI.closed hbb (hrest k' (by have:=get_lt hk1;rwa [Array.length_toList] at this) (by rw [lateAt_of (toL hk1)];exact (dstA_some hk2).1) (by omega))
        rw [k2] at this;cases this
       ·exact (Oper.apart_spec haa).2.2 av (dstA_some hk2).2 (looksAt_op (by rw [hopx];simp [Op.operands]))
     by_cases hil':av < T0.length
     ·rw [putAll_in ops ops.toList tr ops.toList.length T0 av k' y' xk D.nd hk1 hxk hk2 (get_lt hk1) hil',putAll_in ops ops.toList tr k T0 av k' y' xk D.nd hk1 hxk hk2 hlt hil']
     ·have hno:∀ m,(putAll ops ops.toList tr m T0)[av]?=none:=fun m=>List.getElem?_eq_none (by rw [putAll_len];exact Nat.le_of_not_lt hil')
      rw [hno,hno]
    ·rw [putAll_out ops ops.toList tr ops.toList.length T0 av (fun k' y' _ h1 h3=>hw ⟨k',y',h1,h3⟩),putAll_out ops ops.toList tr k T0 av (fun k' y' _ h1 h3=>hw ⟨k',y',h1,h3⟩)]
   have hxi2:xi=(hv E.P tt (hget (Obs.hps B0) iE q),[])∧hok' (Obs.hps B0) e iE q=true:=by
    rcases (t2 k x xi hjx hxi).2 hskx with ⟨_,_,_,g,_⟩|⟨_,_,g,_⟩|⟨_,_,_,_,_,_,g,_⟩|⟨_,_,_,_,_,_,g,_⟩
    ·unfold isLoadT at hlx
     rw [hopx] at hlx
     simp only [Bool.and_eq_true,Option.isNone_iff_eq_none] at hlx
     rw [hlx.2] at g;cases g
    ·have hpo:hpOp E x=false:=by unfold hpOp;rw [hopx];simp
     unfold opQ at g
     rw [hpo,cond_false] at g
     unfold opQ0 at g
     rw [hopx] at g
     simp only at g
     have hg2:({ T:=putAll ops ops.toList tr k T0,B:=B0 }:St).get E.P x.type (.tmp av)=.hptr e iE q:=hTav
     rw [hg2] at g
     simp only at g
     obtain ⟨g1,g2⟩:=cond_some g
     rw [Bool.and_eq_true] at g1
     unfold pairK at g2
     injection g2 with g2
     injection g2 with g3 g4
     injection g3 with g3 _
     exact ⟨Prod.ext g3.symm g4.symm,g1.2⟩
    ·obtain ⟨_,_,_,_,h3⟩:=lin_tail g
     rw [hopx] at h3;cases h3
    ·rw [hopx] at g;cases g
   have hpre:hget (Obs.hps Bm) iE q=hget (Obs.hps B0) iE q:=by
    have hmemF:∀ x,x ∈ ((tr.map (·.2)).reverse).flatten ↔ ∃ (k:Nat)(y:SV × Obs),tr[k]?=some y∧x ∈ y.2:=by
     intro x
     rw [List.mem_flatten]
     constructor
     ·rintro ⟨l,hl,hx⟩
      rw [List.mem_reverse,List.mem_map] at hl
      obtain ⟨y,hy,rfl⟩:=hl
      obtain ⟨k,hk⟩:=List.getElem?_of_mem hy
      exact ⟨k,y,hk,hx⟩
     ·rintro ⟨k,y,hy,hx⟩
      exact ⟨y.2,by rw [List.mem_reverse,List.mem_map];exact ⟨y,List.mem_of_getElem? hy,rfl⟩,hx⟩
    obtain ⟨l,hl⟩:=foldr_pref B0 ((((tr.map (·.2)).reverse).flatten).filter fun x=>x.1==HL || !(linT ops).contains x.1) (fun x hx hne=>by
     obtain ⟨k,y,h1,h2⟩:=(hmemF x).1 (List.mem_filter.1 hx).1
     exact trace_low htl t2 h1 h2 hne) (fun x hx hxl=>by
     obtain ⟨k,y,h1,h2⟩:=(hmemF x).1 (List.mem_filter.1 hx).1
     have:x=(HL,x.2):=by rw [←hxl]
     rw [this] at h2
     exact (heap_of htl t2 h1 h2).2.2)
    rw [hBm] at hl
    rw [hl]
    exact (hok_mono hxi2.2).2
   have hTi1:(Tm.set i1 .dead).set i1 (hv E.P tt (hget (Obs.hps Bm) iE q))=Tm:=by
    rw [List.set_set]
    apply List.ext_getElem?
    intro j
    rw [List.getElem?_set]
    by_cases hij:i1=j
    ·subst hij
     rw [if_pos rfl]
     by_cases hil':i1 < Tm.length
     ·have hin:=putAll_in ops ops.toList tr ops.toList.length T0 i1 k x xi D.nd hjx hxi hdax (get_lt hjx) (by rw [←hTml];exact hil')
      have hT1:Tm[i1]?=some xi.1:=by rw [←hTm,killL_get,if_neg hnlin,hin]
      rw [if_pos hil',hT1,hxi2.1,hpre]
     ·rw [if_neg hil']
      exact (List.getElem?_eq_none (Nat.le_of_not_lt hil')).symm
    ·rw [if_neg hij]
   have hId:Inv E.P w0 F Mo { T:=Tm.set i1 .dead,B:=Bm } a w:=mid (fun j=>j=k) listed a w hDI (fun j z h1 h2=>by
    rcases Nat.decEq j k with h|h
    ·exact .inl (hrest j (by have:=get_lt h1;rwa [Array.length_toList] at this) (by rw [lateAt_of (toL h1)];exact h2) h)
    ·subst h
     refine .inr ⟨rfl,?_,fun z' hz'=>?_⟩
     ·rw [hjx] at h1;injection h1 with h1;subst h1
      cases hlo:linOf ops x with
      | none=>rfl
      | some d =>
       obtain ⟨_,_,_,_,h3⟩:=lin_tail hlo
       rw [hopx] at h3;cases h3
     ·rw [hxi] at hz';injection hz' with hz';rw [←hz',hxi2.1]) (Tm.set i1 .dead) (by rw [List.length_set];exact hTml) (fun j s hs=>by
    rw [List.getElem?_set] at hs
    by_cases hij:i1=j
    ·subst hij
     rw [if_pos rfl] at hs
     split at hs
     ·injection hs with hs;exact .inl hs.symm
     ·cases hs
    ·rw [if_neg hij] at hs
     refine .inr ⟨hs,fun k' y' hk' h1 h3=>?_⟩
     subst hk'
     rw [hjx] at h1;injection h1 with h1;subst h1
     rw [hdax] at h3;injection h3 with h3;exact hij h3)
   have hsw':swapA E { T:=Tm.set i1 .dead,B:=Bm } x y=true:=by
    rw [←hsw]
    exact swapA_set hopx hd1 hav hap (st:={ T:=Tm,B:=Bm }) .dead
   have hpair:pairA ops x y=true:=by unfold pairA;rw [hay,hlx,hap];rfl
   -- the run
   obtain ⟨post,hL2,hpost⟩:∃ post,(ops.toList.filter fun o=>tailOp ops o&&!headOp ops o)=y :: post∧ks'.map (fun k=>ops[k]?)=post.map some:=by
    rw [hksy,List.map_cons,hoy] at hmap
    cases hLL:(ops.toList.filter fun o=>tailOp ops o&&!headOp ops o) with
    | nil=>rw [hLL] at hmap;simp at hmap
    | cons y' post =>
     rw [hLL,List.map_cons,List.cons.injEq] at hmap
     obtain ⟨h1,h2⟩:=hmap
     injection h1 with h1;subst h1
     exact ⟨post,rfl,h2⟩
   unfold execT at t3
   rw [hnl] at t3
   simp only at t3
   rw [hns] at t3
   simp only at t3
   rw [hL2] at t3
   obtain ⟨hg1,hg2⟩:x.guard=none∧y.guard=none:=by
    unfold isLoadT at hlx
    rw [hopx] at hlx
    simp only [Bool.and_eq_true,Option.isNone_iff_eq_none] at hlx
    unfold isAppT at hay
    split at hay
    ·simp only [Bool.and_eq_true,Option.isNone_iff_eq_none] at hay
     exact ⟨hlx.2,hay.2⟩
    ·cases hay
   have hrun:execOps E ops [x,y] (execOps E ops post K) { T:=Tm.set i1 .dead,B:=Bm }=some r:=by
    have hTa':(({ T:=Tm.set i1 .dead,B:=Bm }:St)).T.getD av .dead=.hptr e iE q:=by
     rw [←hTa]
     exact get_setT (st:={ T:=Tm,B:=Bm }) (P:=E.P) (t:=0) (x:=.tmp av) (by intro h;injection h with h;exact hav h)
    rw [hload_run hopx hd1 hg1 hm1 hTa' hty hu hok hlo1]
    show execOps E ops [y] (execOps E ops post K) { T:=(Tm.set i1 .dead).set i1 (hv E.P tt (hget (Obs.hps Bm) iE q)),B:=Bm }=some r
    rw [hTi1]
    rw [←t3]
    show (match y.guard with|none=>_|some (j,want)=>_)=(match y.guard with|none=>_|some (j,want)=>_)
    rw [hg2]
    rfl
   have hQ':∀ st a w,Inv E.P w0 F Mo st a w→execOps E ops post K st=some r→(fun e a w=>e=Exit.normal∧wpP E.P ops Q ks' a w) Exit.normal a w:=fun st a w hI h=>⟨rfl,wpOps_wpT ks' a w (execOps_sound hL hC hQ ks' post hpost hI h)⟩
   have htwo:=wpOps_two (Q:=Q) (swapA_sound hL hC hQ' hox hoy hpair hId hsw' hrun)
   rw [Nat.zero_add,hksy]
   have hTP:TailsP ops ks':=by
    have h:=D.tails
    rw [hks,hksy] at h
    unfold TailsAll at h
    rw [hnl] at h
    simp only at h
    rw [hns] at h
    exact h.2
   have hcl':=closed_set (i:=i) hDI.closed (by omega) hdeps
   have hs1:(listed.setIfInBounds i true).size=ops.size:=by simpa using hsz
   have hpw':=hpw
   rw [hksy,List.pairwise_cons] at hpw'
   have hki:i≠k:=fun h=>by rw [h,k3] at hli;cases hli
   have hkn:k ∉ ks':=fun h=>by
    have:=((hmem k).1 (by rw [hksy];simp [h])).2
    rw [tailAt_late k3] at this;cases this
   refine wpOp_mono (fun a' w' h=>?_) htwo
   have hkr':∀ o,ops[k]?=some o→∀ e ∈ o.after,Region.binds .any e=true→(listed.setIfInBounds i true).getD e.on false=true:=fun o ho e he hb=>by
    rw [hox] at ho;injection ho with ho;subst ho
    rw [getD_set _ _ _ _ (by omega)]
    split
    ·rfl
    ·exact hkr e he hb
   have hks1:(listed.setIfInBounds i true).getD k false=false:=by rw [getD_set _ _ _ _ (by omega),if_neg hki];exact k2
   have hun:∀ j,j < ops.size→(listed.setIfInBounds i true).getD j false=false→j=k∨j ∈ ks':=by
    intro j hj h
    rw [getD_set _ _ _ _ (by omega)] at h
    by_cases hij:i=j
    ·rw [if_pos hij] at h;cases h
    ·rw [if_neg hij] at h
     cases hlj:lateAt ops j with
     | false =>
      rcases Nat.decEq j k with hjk|hjk
      ·rw [hrest j hj hlj hjk] at h;cases h
      ·exact .inl hjk
     | true =>
      right
      have hgj:nHead ops≤j:=by
       rcases Nat.lt_or_ge j (nHead ops) with hlt|hge
       ·rw [hDI.heads j hlt] at h;cases h
       ·exact hge
      have hm:=(hmem j).2 ⟨hj,D.kinds j hgj hj hlj⟩
      rw [hksy] at hm
      rcases List.mem_cons.1 hm with h|h
      ·exact absurd h.symm hij
      ·exact h
   refine any_cons hs1 hcl' k1 hks1 hkr' (fun j hj hj2=>?_) (fun a w h=>any_tail D.nosel hQn (fun hj hp=>pure_yields hQn hj hp (hfa hj)) D.lt ks' none _ a w hpw'.2 (fun k hk=>(hmem k).1 (by rw [hksy];simp [hk])) (by simpa using hs1) (closed_set hcl' (by omega) hkr') (fun j hj=>?_) hTP h) h
   ·rcases hun j hj hj2 with h|h
    ·exact .inl h
    ·exact .inr (hbef j h).1
   ·rw [getD_set _ _ _ _ (by omega)]
    by_cases hkj:k=j
    ·subst hkj
     rw [if_pos rfl]
     exact ⟨fun h=>(by cases h),fun h=>absurd h hkn⟩
    ·rw [if_neg hkj]
     refine ⟨fun h=>(hun j hj h).resolve_left (Ne.symm hkj),fun h=>?_⟩
     rw [getD_set _ _ _ _ (by omega),if_neg (fun hij=>by have:=hpw'.1 j h;omega)]
     exact hDI.onlyA j ((hmem j).1 (by rw [hksy];simp [h])).2
 have phase:∀ c (listed:Array Bool)(a:Act)(w:World),unl ops listed ops.size=c→DI E w0 F Mo ops tr T0 B0 listed a w→wpAny E.P .any ops Q (c+ks.length) listed a w:=by
  intro c
  induction c with
  | zero =>
   intro listed a w hc hDI
   have hall:=unl_zero hc
   have hIm:Inv E.P w0 F Mo { T:=Tm,B:=Bm } a w:=mid (fun _=>False) listed a w hDI (fun k y h1 h2=>.inl (hall k (by have:=get_lt h1;rw [Array.length_toList] at this;exact this) (by rw [lateAt_of (toL h1)];exact h2))) Tm hTml (fun i s hs=>.inr ⟨hs,fun k y h=>h.elim⟩)
   obtain ⟨hcl,hsz,honly,hheads,_⟩:=hDI
   have hlist:∀ j,j < ops.size→(listed.getD j false=false ↔ j ∈ ks):=by
    intro j hj
    rw [hmem]
    refine ⟨fun h=>⟨hj,?_⟩,fun h=>honly j h.2⟩
    cases hl:lateAt ops j with
    | false=>rw [hall j hj hl] at h;cases h
    | true =>
     refine D.kinds j ?_ hj hl
     rcases Nat.lt_or_ge j (nHead ops) with hlt|hge
     ·rw [hheads j hlt] at h;cases h
     ·exact hge
   have htl':=D.tails
   rw [hks] at htl'
   unfold TailsAll at htl'
   rw [Nat.zero_add]
   cases hld:loadsT (ops.toList.filter fun o=>tailOp ops o&&!headOp ops o) with
   | some q =>
    obtain ⟨X,y,post⟩:=q
    rw [hld] at htl'
    unfold execT at t3
    rw [hld] at t3
    obtain ⟨hok,t3⟩:=cond_some t3
    exact loads_sound hL hC hQ D.nosel hQn (fun hj hp=>pure_yields hQn hj hp (hfa hj)) D.lt hmap hld htl' hIm hok t3 hpw (fun k hk=>(hmem k).1 hk) hsz hcl hlist
   | none =>
   rw [hld] at htl'
   have hops:=execT_sound hL hC hQ ks (ops.toList.filter fun o=>tailOp ops o&&!headOp ops o) hmap hIm hld t3
   refine any_tail D.nosel hQn (fun hj hp=>pure_yields hQn hj hp (hfa hj)) D.lt ks _ listed a w hpw (fun k hk=>(hmem k).1 hk) hsz hcl hlist htl' hops
  | succ c ih =>
   intro listed a w hc hDI
   rw [show c+1+ks.length=(c+ks.length)+1 by omega]
   have hsz:=hDI.size
   by_cases hone:∃ j,j < ops.size∧listed.getD j false=false∧lateAt ops j=false∧heldAt ops j=false
   rotate_left
   ·exact fork c ih listed a w hc hDI hone
   obtain ⟨k,⟨k1,k2,k3,k0⟩,k4'⟩:=least hone
   have k4:∀ j,j < k→lateAt ops j=false→heldAt ops j=false→listed.getD j false=true:=fun j hj hl hh=>by
    cases hg:listed.getD j false with
    | true=>rfl
    | false=>exact absurd ⟨by omega,hg,hl,hh⟩ (k4' j hj)
   have getb:∀ i (b:Bool),i < ops.size→listed.getD i b=listed.getD i false:=by
    intro i b hi
    rw [Array.getD_eq_getD_getElem?,Array.getD_eq_getD_getElem?,Array.getElem?_eq_getElem (by omega)];rfl
   have hko:ops[k]?=some ops[k]:=Array.getElem?_eq_getElem (by omega)
   have hklate:skipOp ops ops[k]=false:=by rw [←lateAt_of hko];exact k3
   have hr:∀ e ∈ (ops[k]).after,Region.binds .any e=true→listed.getD e.on false=true:=fun e he hb=>by
    rcases D.ahead k _ hko hklate e he hb with h|h
    ·exact hDI.heads _ h
    ·refine k4 _ (D.lt k _ hko e he hb) h ?_
     cases hha:heldAt ops e.on with
     | false=>rfl
     | true =>
      exfalso
      unfold heldAt at hha
      split at hha
      ·rename_i kx ky hK
       obtain ⟨_,_,_,_,_,_,_,_,_,_,_,hno,_⟩:=D.held kx ky hK
       exact hno k _ hko hklate e he hb (by simpa using (beq_iff_eq.1 hha).symm)
      ·cases hha
   have hready:k ∈ Region.ready .any ops listed:=mem_ready.2 ⟨by rw [getb k true k1];exact k2,_,hko,hr⟩
   rcases D.free k k1 k3 with hkm|⟨hf,hfk⟩|hf
   ·-- all of the last ones wait for it
    refine ⟨(fun h0=>by rw [h0] at hready;cases hready),fun i hi=>?_⟩
    obtain ⟨h1,o,ho,h2⟩:=mem_ready.1 hi
    have hil:=(Array.getElem?_eq_some_iff.1 ho).1
    rw [getb i true hil] at h1
    have him:lateAt ops i=false:=by
     cases hl:lateAt ops i with
     | false=>rfl
     | true =>
      exfalso
      have hge:nHead ops≤i:=by
       rcases Nat.lt_or_ge i (nHead ops) with hlt|hge
       ·rw [hDI.heads i hlt] at h1;cases h1
       ·exact hge
      have:=closed_bef hDI.closed (hkm i hil (D.kinds i hge hil hl)) (fun o' ho' e he hb=>h2 e (by rw [ho] at ho';injection ho' with ho';rw [ho'];exact he) hb)
      rw [k2] at this;cases this
    obtain ⟨xi,hxi⟩:∃ xi,tr[i]?=some xi:=⟨_,List.getElem?_eq_getElem (by omega)⟩
    refine hDI.step hL hC D htl hfree t2 hclean ho (by rw [←lateAt_of ho];exact him) hxi h1 h2 fun a' w' hDI'=>ih _ a' w' ?_ hDI'
    have:=(unl_set (listed:=listed) (i:=i) (by omega) h1 him ops.size).2 hil
    omega
   ·-- one behind: it is taken first
    unfold freeP at hf
    rw [hko] at hf
    simp only [Bool.and_eq_true,List.all_eq_true,List.mem_range] at hf
    obtain ⟨hp,hap⟩:=hf
    obtain ⟨xi,hxi⟩:∃ xi,tr[k]?=some xi:=⟨_,List.getElem?_eq_getElem (by omega)⟩
    have hstep:=hDI.step (Q:=Q) hL hC D htl hfree t2 hclean hko hklate hxi k2 hr (K:=DI E w0 F Mo ops tr T0 B0 (listed.setIfInBounds k true)) fun a' w' hDI'=>hDI'
    obtain ⟨v,hy,hDI'⟩:=pure_yields hQn hko hp (hfa hko) hstep
    refine wpAny_take hko D.nosel ?_ (by simpa using hready) (fun ch a w h=>by cases hQn _ _ _ h) hy (ih _ _ _ ?_ hDI')
    ·unfold Region.free
     rw [hko]
     simp only [List.all_eq_true,List.mem_range,Bool.or_eq_true]
     intro j hj
     have:=hap j hj
     simp only [Bool.or_eq_true] at this
     rcases this with ((h|h)|h)|h
     ·exact .inl (.inl h)
     ·simp only [Bool.and_eq_true,Bool.not_eq_true'] at h
      cases hha:heldAt ops j with
      | false =>
       refine .inl (.inr ?_)
       rw [getb j true hj]
       exact k4 j (by simpa using h.1) h.2 hha
      | true =>
       right
       unfold heldAt at hha
       unfold heldFree at hfk
       split at hha
       ·rename_i kx ky hK
        have hkj:kx=j:=by simpa using hha
        subst hkj
        rw [hK] at hfk
        simp only at hfk
        rw [hko,Array.getElem?_eq_getElem hj] at hfk
        rw [Array.getElem?_eq_getElem hj]
        simp only [Bool.or_eq_true,beq_iff_eq] at hfk ⊢
        rcases hfk with h'|h'|h'
        ·have:kx < k:=by simpa using h.1
         omega
        ·refine .inl ?_
         rw [List.any_eq_true] at h'
         obtain ⟨e,he,hb⟩:=h'
         exact Array.any_eq_true'.2 ⟨e,by simpa using he,hb⟩
        ·exact .inr h'
       ·cases hha
     ·refine .inl (.inr ?_)
      rw [getb j true hj]
      exact hDI.heads j (by simpa using h)
     ·right
      rw [Array.getElem?_eq_getElem hj] at h ⊢
      simp only [Bool.or_eq_true] at h ⊢
      rcases h with h|h
      ·refine .inl ?_
       rw [List.any_eq_true] at h
       obtain ⟨e,he,hb⟩:=h
       exact Array.any_eq_true'.2 ⟨e,by simpa using he,hb⟩
      ·exact .inr h
    ·have:=(unl_set (listed:=listed) (i:=k) (by omega) k2 k3 ops.size).2 k1
     omega
   ·rw [k0] at hf;cases hf
 obtain ⟨hd0,β0,hR0,hk0⟩:=hI0
 have hnl:∀ (k:Nat)(o:Oper),ops.toList[k]?=some o→listed0.getD k false=true→skipOp ops o=true:=by
  intro k o ho hl
  have hk:k < ops.size:=by have:=get_lt ho;rwa [Array.length_toList] at this
  rw [hl0 k hk] at hl
  have:=(D.head k (by simpa using hl)).1
  rwa [lateAt_of (toL ho)] at this
 have hDI:DI E w0 F Mo ops tr T0 B0 listed0 a w:=by
  refine ⟨hlc0,hls0,fun j hj=>?_,fun j hj=>?_,hd0,T0,B0,β0,rfl,fun _ _=>rfl,?_,fun _ _ _ h=>h,?_,fun d ob _ h=>.inl h,⟨rfl,.inl ⟨rfl,fun k x ob hx hl hm=>?_⟩⟩,hR0,hk0⟩
  ·rcases Nat.lt_or_ge j ops.size with h|h
   ·rw [hl0 j h]
    rcases Nat.lt_or_ge j (nHead ops) with h2|h2
    ·rw [(D.head j h2).2.1] at hj;cases hj
    ·simpa using h2
   ·rw [Array.getD_eq_getD_getElem?,Array.getElem?_eq_none (by omega)];rfl
  ·rw [hl0 j (by omega)];simpa using hj
  ·intro k o x i ho _ hl hd
   have:=hnl k o ho hl
   unfold dstA at hd
   rw [this] at hd;cases hd
  ·intro k x d ob _ hx hl hm
   have hkl:k < ops.toList.length:=by have:=get_lt hx;rw [Array.length_toList];omega
   have hak:=List.getElem?_eq_getElem hkl
   rw [(t2 k _ x hak hx).1 (hnl k _ hak hl)] at hm
   simp at hm
  ·have hkl:k < ops.toList.length:=by have:=get_lt hx;rw [Array.length_toList];omega
   have hak:=List.getElem?_eq_getElem hkl
   rw [(t2 k _ x hak hx).1 (hnl k _ hak hl)] at hm
   simp at hm
 have hcount:unl ops listed0 ops.size+ks.length=ops.size - nHead ops:=by
  have gen:∀ n,n≤ops.size→unl ops listed0 n+((List.range n).filter fun k=>tailAt ops k).length=n - nHead ops:=by
   intro n
   induction n with
   | zero=>intro _;simp [unl]
   | succ n ih =>
    intro hn
    have:=ih (by omega)
    unfold unl
    rw [List.range_succ,List.filter_append,List.length_append,hl0 n (by omega)]
    rcases Nat.lt_or_ge n (nHead ops) with hlt|hge
    ·have h1:=D.head n hlt
     rw [if_pos (.inl (by simpa using hlt))]
     simp [h1.2.1]
     omega
    ·cases hl:lateAt ops n with
     | true =>
      have:=D.kinds n hge (by omega) hl
      rw [if_pos (.inr rfl)]
      simp [this]
      omega
     | false =>
      have:=tailAt_late hl
      rw [if_neg (by simp;omega)]
      simp [this]
      omega
  rw [←hks]
  exact gen ops.size (Nat.le_refl _)
 have:=phase _ listed0 a w rfl hDI
 rw [hcount] at this
 exact this

end
end Go.X
/- The interpreter X, part 39: what is asked of a program, by looking. -/
namespace Go.X
open Go

/-- All regions whose order is drawn are such that it does not matter. -/
def codeOkB:Code→Bool
 | .region _ ops true=>dOk ops
 | .seq x y=>codeOkB x&&codeOkB y
 | .cond _ x y=>codeOkB x&&codeOkB y
 | .block _ c=>codeOkB c
 | .loop c=>codeOkB c
 | .scope c=>codeOkB c
 | _=>true

theorem drawsOk_of {E:Env}(hL:laidOutB E.P=true)(hC:OracleOk E.P E.C)(hm:E.P.follows .mixedOrders=true):∀ {c:Code},codeOkB c=true→DrawsOk E c
 | .region _ ops true,h=>draw_ok hL hC hm h
 | .region _ ops false,_=>trivial
 | .seq x y,h=>by
  simp only [codeOkB,Bool.and_eq_true] at h
  exact ⟨drawsOk_of hL hC hm h.1,drawsOk_of hL hC hm h.2⟩
 | .cond _ x y,h=>by
  simp only [codeOkB,Bool.and_eq_true] at h
  exact ⟨drawsOk_of hL hC hm h.1,drawsOk_of hL hC hm h.2⟩
 | .block _ c,h=>drawsOk_of (c:=c) hL hC hm h
 | .loop c,h=>drawsOk_of (c:=c) hL hC hm h
 | .scope c,h=>drawsOk_of (c:=c) hL hC hm h
 | .skip,_=>trivial
 | .exit _,_=>trivial
 | .ret,_=>trivial
 | .rangeFunc _ _ _ _,_=>trivial
 | .label _,_=>trivial
 | .goto _,_=>trivial
 | .refuse _,_=>trivial

def drawsB (P:Program)(okF:FuncId→Bool):Bool :=
 (List.range P.funcs.size).all fun f=>!okF f || (match P.funcs[f]? with|some fn=>(match fn.body with|some c=>codeOkB c|none=>true)|none=>true)

end Go.X
/- The interpreter X, part 40: laws without arguments. -/
namespace Go.X
open Go

theorem kept_of_old {w w':World}(may:MemPlace→Prop)(hos:w'.os=w.os)(hout:w'.output=w.output)(h:∀ i,i < w.heap.size→w'.heap[i]?=w.heap[i]?):w.keptBut w' may:=by
 refine ⟨hos,hout,fun i hi=>?_⟩
 rw [h i hi]
 exact (World.keptBut_refl w may).2.2 i hi

end Go.X
/- The interpreter X, part 41: what comes behind the end may be handed in. -/
namespace Go.X
open Go

theorem unpair_bind (K:SV→Obs→Option Out)(h:Out→Option Out)(y:Out):unpair (fun s os=>(K s os).bind h) y=(unpair K y).bind h:=by
 unfold unpair
 split <;> rfl

theorem opQ_bind (E:Env)(hp:Par E.C)(h:Out→Option Out)(o:Oper)(st:St)(K:SV→Obs→Option Out):opQ E o st (fun s os=>(K s os).bind h)=(opQ E o st K).bind h:=by
 rw [opQ_param E hp o st K,opQ_param E hp o st (fun s os=>(K s os).bind h)]
 cases opQ E o st pairK with
 | none=>rfl
 | some y=>exact unpair_bind K h y

theorem ite_bind {c:Prop} [Decidable c](x y:Option Out)(h:Out→Option Out):(if c then x else y).bind h=if c then x.bind h else y.bind h:=by split <;> rfl

theorem callE_bind (E:Env)(hp:Par E.C)(h:Out→Option Out)(o:Oper)(st:St)(f:FuncId)(args:List SV)(K:St→Option Out):callE E o st f args (fun st=>(K st).bind h)=(callE E o st f args K).bind h:=by
 unfold callE
 cases E.P.funcs[f]? with
 | none=>rfl
 | some fn =>
  simp only [Bool.cond_eq_ite]
  split
  ·rw [ite_bind]
   split
   ·refine Par.bind hp fun r=>?_
    split <;> rfl
   ·rfl
  ·rfl

theorem opE0_bind (E:Env)(hp:Par E.C)(h:Out→Option Out)(o:Oper)(st:St)(K:St→Option Out):opE0 E o st (fun st=>(K st).bind h)=(opE0 E o st K).bind h:=by
 unfold opE0
 simp only [Bool.cond_eq_ite]
 split
 ·repeat' split
  all_goals first
   | rfl
   | (simp only [ite_bind];done)
 ·repeat' split
  all_goals first
   | rfl
   | (simp only [ite_bind];done)
 ·repeat' split
  all_goals first
   | rfl
   | (simp only [ite_bind];done)
 ·repeat' split
  all_goals first
   | rfl
   | (simp only [ite_bind];done)
 ·exact callE_bind E hp h o st _ _ K
 ·split
  ·exact callE_bind E hp h o st _ _ K
  ·rfl
 ·rfl

theorem opEH_bind (E : Env) (h : Out → Option Out) (o : Oper) (st : St) (K : St → Option Out) : opEH E o st (fun st => (K st).bind h) = (opEH E o st K).bind h := by
  unfold opEH
  simp only [Bool.cond_eq_ite]
  split
  all_goals
    (repeat' split
     all_goals first
       | rfl
       | (simp only [ite_bind]; done)
       | (simp only [ite_bind]; rfl))
theorem opE_bind (E:Env)(hp:Par E.C)(h:Out→Option Out)(o:Oper)(st:St)(K:St→Option Out):opE E o st (fun st=>(K st).bind h)=(opE E o st K).bind h:=by
 unfold opE
 cases hpEff E o st with
 | false=>exact opE0_bind E hp h o st K
 | true =>
  cases Obs.hasH st.B with
  | false=>rfl
  | true=>exact opEH_bind E h o st K

theorem opX_bind (E:Env)(hp:Par E.C)(h:Out→Option Out)(o:Oper)(st:St)(K:St→Option Out):opX E o st (fun st=>(K st).bind h)=(opX E o st K).bind h:=by
 unfold opX
 simp only [Bool.cond_eq_ite]
 split
 ·rfl
 ·split
  ·exact opE_bind E hp h o _ K
  ·exact opQ_bind E hp h o _ (fun s os=>K ((St.lay _ os).put o.dst s))

theorem execOps_bind (E:Env)(hp:Par E.C)(h:Out→Option Out)(ops:Array Oper)(K:St→Option Out):∀ (l:List Oper)(st:St),execOps E ops l (fun st=>(K st).bind h) st=(execOps E ops l K st).bind h
 | [],st=>rfl
 | o :: l,st=>by
  have ih:execOps E ops l (fun st=>(K st).bind h)=fun st=>(execOps E ops l K st).bind h:=funext fun st=>execOps_bind E hp h ops K l st
  unfold execOps
  cases o.guard with
  | none=>simp only [ih];exact opX_bind E hp h o _ _
  | some gw =>
   obtain ⟨j,want⟩:=gw
   simp only
   cases (ops[j]?).bind (·.dst) with
   | none=>rfl
   | some dj =>
    simp only [Bool.cond_eq_ite]
    split
    ·split
     ·rw [ih];exact opX_bind E hp h o _ _
     ·rw [ih]
    ·rw [ih]
    ·rfl

theorem stepA_bind (E:Env)(hp:Par E.C)(h:Out→Option Out)(ops:Array Oper)(o:Oper)(st:St)(os:Obs)(K:St→Obs→Option Out):stepA E ops o st os (fun st os=>(K st os).bind h)=(stepA E ops o st os K).bind h:=by
 unfold stepA
 cases linOf ops o with
 | some a =>
  simp only
  split
  ·rename_i u d _
   cases d==a with
   | true =>
    simp only [cond_true]
    split <;> rfl
   | false=>rfl
  ·rfl
 | none =>
 simp only
 cases (isE E o st || !bareAlloc E o) with
 | true =>
  simp only [cond_true]
  cases stA E o st os <;> rfl
 | false =>
  simp only [cond_false]
  rw [←opQ_bind E hp h]
  congr 1
  funext s l
  split
  ·rfl
  ·rename_i d ob
   cases d==HL with
   | true=>cases (Obs.hasH st.B&&os.all fun x=>!(x.1==HL)) <;> rfl
   | false=>cases (o.dst==some d&&laysOp o&&d.blt lowB) <;> rfl
  ·rfl

theorem execA_bind (E:Env)(hp:Par E.C)(h:Out→Option Out)(ops:Array Oper)(K:St→Obs→Option Out):∀ (l:List Oper)(st:St)(os:Obs),execA E ops l (fun st os=>(K st os).bind h) st os=(execA E ops l K st os).bind h
 | [],st,os=>rfl
 | o :: l,st,os=>by
  have ih:execA E ops l (fun st os=>(K st os).bind h)=fun st os=>(execA E ops l K st os).bind h:=funext fun st=>funext fun os=>execA_bind E hp h ops K l st os
  unfold execA
  cases o.guard with
  | none=>simp only [ih];exact stepA_bind E hp h ops o st os _
  | some gw =>
   obtain ⟨j,want⟩:=gw
   simp only
   cases (ops[j]?).bind (·.dst) with
   | none=>rfl
   | some dj =>
    simp only [Bool.cond_eq_ite]
    split
    ·split
     ·rw [ih];exact stepA_bind E hp h ops o _ _ _
     ·rw [ih]
    ·rw [ih]
    ·rfl

theorem execT_bind (E:Env)(hp:Par E.C)(h:Out→Option Out)(ops:Array Oper)(K:St→Option Out)(L:List Oper)(st:St):execT E ops L (fun st=>(K st).bind h) st=(execT E ops L K st).bind h:=by
 unfold execT
 cases loadsT L with
 | some q =>
  obtain ⟨X,y,_⟩:=q
  simp only
  cases loadsOk E ops st X y with
  | true=>exact execOps_bind E hp h ops K _ _
  | false=>rfl
 | none =>
 simp only
 cases swapT ops L with
 | none=>exact execOps_bind E hp h ops K _ _
 | some q =>
  obtain ⟨pre,x,y,post⟩:=q
  simp only
  rw [←execOps_bind E hp h]
  congr 1
  funext st1
  cases swapOk E st1 x y with
  | true =>
   simp only [cond_true]
   rw [←execOps_bind E hp h]
   congr 1
   funext st2
   exact execOps_bind E hp h ops K _ _
  | false=>rfl

theorem execD_bind (E:Env)(hp:Par E.C)(h:Out→Option Out)(ops:Array Oper)(K:St→Option Out)(st:St):execD E ops (fun st=>(K st).bind h) st=(execD E ops K st).bind h:=by
 unfold execD
 cases faOk E ops with
 | false=>rfl
 | true =>
 simp only [Bool.not_true,cond_false]
 rw [←execOps_bind E hp h]
 congr 1
 funext st0
 rw [←execA_bind E hp h]
 congr 1
 funext st1 os
 cases linClean (linT ops) _ st1.T st1.B os with
 | true =>
  simp only [cond_true]
  generalize ({ T:=killL (linT ops) st1.T,B:=_ }:St)=stm
  cases heldOk E ops stm with
  | true=>exact execT_bind E hp h ops K _ _
  | false=>rfl
 | false=>rfl

theorem loopN_bind (h:Out→Option Out){body:Kont→St→Option Out}(hb:∀ K st,body (fun e st=>(K e st).bind h) st=(body K st).bind h)(K:Kont):∀ (n:Nat)(st:St),loopN body (fun e st=>(K e st).bind h) n st=(loopN body K n st).bind h
 | 0,st=>rfl
 | n+1,st=>by
  unfold loopN
  rw [←hb]
  congr 1
  funext e st
  cases e with
  | normal=>exact loopN_bind h hb K n st
  | _=>rfl

theorem exec_bind (E:Env)(hp:Par E.C)(h:Out→Option Out):∀ (c:Code)(K:Kont)(st:St),exec E c (fun e st=>(K e st).bind h) st=(exec E c K st).bind h
 | .skip,K,st=>rfl
 | .region _ ops draw,K,st=>by
  unfold exec
  cases draw with
  | true=>exact execD_bind E hp h ops (K .normal) st
  | false=>exact execOps_bind E hp h ops (K .normal) _ st
 | .seq a b,K,st=>by
  unfold exec
  rw [←exec_bind E hp h a]
  congr 1
  funext e st
  cases e with
  | normal=>exact exec_bind E hp h b K _
  | _=>rfl
 | .cond c a b,K,st=>by
  unfold exec
  split
  ·rename_i t _
   cases t with
   | true=>exact exec_bind E hp h a K _
   | false=>exact exec_bind E hp h b K _
  ·rfl
 | .block id c,K,st=>by
  unfold exec
  rw [←exec_bind E hp h c]
  congr 1
  funext e st
  unfold blockK
  split
  ·rename_i i
   cases hi:i==id <;> rfl
  ·rfl
 | .loop c,K,st=>by
  unfold exec
  refine loopN_bind h (body:=fun K st=>exec E c (purgeK E c K) st) (fun K st=>?_) K _ _
  show exec E c _ st=_
  rw [←exec_bind E hp h c]
  congr 1
  funext e st
  cases e <;> rfl
 | .exit id,K,st=>rfl
 | .scope c,K,st=>by
  unfold exec
  exact exec_bind E hp h c K st
 | .ret,K,st=>rfl
 | .rangeFunc _ _ _ _,K,st=>rfl
 | .label _,K,st=>rfl
 | .goto _,K,st=>rfl
 | .refuse _,K,st=>rfl

end Go.X
