/- The interpreter X: texts 35 to 37; no statement of the seat is proved here. -/
import Derived.Test.YtmdlhnojpcnnbaaXE
import Derived.Orders
namespace Go.X
open Go

def pairK (s:SV)(os:Obs):Option Out:=some ([s],os)
def unpair (K:SV→Obs→Option Out):Out→Option Out
 | ([s],os)=>K s os
 | _=>none

theorem binI_param (op:BinOp)(k:IntKind)(a b:Int)(K:SV→Obs→Option Out):binI op k a b (fun s=>K s [])=(binI op k a b (fun s=>pairK s [])).bind (unpair K):=by
 cases op <;> simp only [binI,Bool.cond_eq_ite] <;> (try split) <;> rfl
theorem binSt_param (op:BinOp)(a b:List Int)(K:SV→Obs→Option Out):binSt op a b (fun s=>K s [])=(binSt op a b (fun s=>pairK s [])).bind (unpair K):=by
 cases op <;> simp only [binSt,Bool.cond_eq_ite] <;> (try split) <;> rfl
theorem nilX_param (P:Program)(op:BinOp)(x:SV)(K:SV→Obs→Option Out):nilX P op x (fun s=>K s [])=(nilX P op x (fun s=>pairK s [])).bind (unpair K):=by
 unfold nilX
 repeat' split
 all_goals rfl
theorem binX_param (P:Program)(op:BinOp)(t:TypeId)(x y:SV)(K:SV→Obs→Option Out):binX P op t x y (fun s=>K s [])=(binX P op t x y (fun s=>pairK s [])).bind (unpair K):=by
 unfold binX
 simp only [Bool.cond_eq_ite]
 repeat' split
 all_goals first
  | rfl
  | exact binI_param _ _ _ _ _
  | exact binSt_param _ _ _ _
  | exact nilX_param _ _ _ _
theorem bounds_param (lo hi:Option Int)(len:Nat)(g:Nat→Nat→SV)(K:SV→Obs→Option Out):bounds lo hi len (fun a b=>K (g a b) [])=(bounds lo hi len (fun a b=>pairK (g a b) [])).bind (unpair K):=by
 unfold bounds
 simp only [Bool.cond_eq_ite]
 split <;> rfl
theorem Par.bind {C:FuncId→List SV→Obs→(Out→Option Out)→Option Out}(hp:Par C){f:FuncId}{l:List SV}{B:Obs}{K1 K2 g:Out→Option Out}(h:∀ r,K1 r=(K2 r).bind g):C f l B K1=(C f l B K2).bind g:=by
 rw [hp f l B K1,hp f l B K2]
 cases C f l B some with
 | none=>rfl
 | some r=>exact h r
theorem callQ_param (E:Env)(hp:Par E.C)(st:St)(f:FuncId)(args:List SV)(K:SV→Obs→Option Out):callQ E st f args K=(callQ E st f args pairK).bind (unpair K):=by
 unfold callQ
 simp only [Bool.cond_eq_ite]
 split
 ·rfl
 ·split
  ·rfl
  ·refine Par.bind hp fun r=>?_
   split <;> rfl

theorem opQ0_param (E : Env) (hp : Par E.C) (o : Oper) (st : St) (K : SV → Obs → Option Out) : opQ0 E o st K = (opQ0 E o st pairK).bind (unpair K) := by
  unfold opQ0
  simp only [Bool.cond_eq_ite]
  split
  all_goals first
    | exact binX_param _ _ _ _ _ _
    | exact callQ_param _ hp _ _ _ _
    | (repeat' split
       all_goals first
         | rfl
         | exact bounds_param _ _ _ _ _)
theorem opH_param (E : Env) (o : Oper) (st : St) (K : SV → Obs → Option Out) : opH E o st K = (opH E o st pairK).bind (unpair K) := by
  unfold opH
  simp only [Bool.cond_eq_ite]
  split
  all_goals
    (repeat' split
     all_goals rfl)
theorem opQ_param (E:Env)(hp:Par E.C)(o:Oper)(st:St)(K:SV→Obs→Option Out):opQ E o st K=(opQ E o st pairK).bind (unpair K):=by
 unfold opQ
 cases hpOp E o with
 | false=>exact opQ0_param E hp o st K
 | true =>
  cases Obs.hasH st.B with
  | false=>rfl
  | true=>exact opH_param E o st K

section
variable {E : Env} {st st' : St}

theorem elems_mono (hB:∀ d x,d≠HL→Obs.get st.B d=some x→Obs.get st'.B d=some x){P:Program}{e:TypeId}{s:SV}{l:List PV}(h:st.elems P e s=some l):st'.elems P e s=some l:=by
 unfold St.elems at h ⊢
 cases s with
 | own u d =>
  simp only at h ⊢
  cases hg:Obs.get st.B d with
  | none=>rw [hg] at h;cases h
  | some x =>
   rw [hB d x (fun hd=>by subst hd;obtain ⟨l,rfl,_⟩:=Obs.hp_of hg;rw [hg] at h;cases h) hg]
   rw [hg] at h;exact h
 | _=>exact h

theorem pass_mono (hB:∀ d x,d≠HL→Obs.get st.B d=some x→Obs.get st'.B d=some x){P:Program}{b:Bool}{t:TypeId}{s s':SV}(h:s.pass P st b t=some s'):s.pass P st' b t=some s':=by
 unfold SV.pass at h ⊢
 cases s with
 | own u d =>
  simp only at h ⊢
  obtain ⟨h1,h⟩:=cond_some h
  rw [h1,cond_true]
  cases hu:P.underlying t with
  | none=>rw [hu] at h;cases h
  | some dd =>
   rw [hu] at h
   cases dd with
   | slice e =>
    simp only at h ⊢
    cases hl:st.elems P e (.own u d) with
    | none=>rw [hl] at h;cases h
    | some l=>rw [elems_mono hB hl];rw [hl] at h;exact h
   | _=>cases h
 | _=>exact h
theorem passAll_mono (hB:∀ d x,d≠HL→Obs.get st.B d=some x→Obs.get st'.B d=some x){P:Program}{b:Bool}:∀ {ts:List TypeId}{l r:List SV},passAll P st b ts l=some r→passAll P st' b ts l=some r
 | [],[],r,h=>h
 | [],_ :: _,_,h=>by simp [passAll] at h
 | _ :: _,[],_,h=>by simp [passAll] at h
 | t :: ts,s :: l,r,h=>by
  unfold passAll at h ⊢
  cases h1:s.pass P st b t with
  | none=>rw [h1] at h;cases h
  | some x =>
   cases h2:passAll P st b ts l with
   | none=>rw [h1,h2] at h;cases h
   | some y=>rw [pass_mono hB h1,passAll_mono hB h2];rw [h1,h2] at h;exact h

def _root_.Go.Op.makes:Op→Bool
 | .alloc _|.box _ _|.buildSlice _ _ _|.makeSlice _ _ _=>true
 | _=>false
theorem hgetElem_mono {H l:List HE}{i:Nat}{y:HE}(h:H[i]?=some y):(H++l)[i]?=some y:=by
 rw [List.getElem?_append_left (get_lt h)];exact h
theorem hok_mono {H l:List HE}{e:TypeId}{i:Nat}{q:List Stp}(h:hok H e i q=true):hok (H++l) e i q=true∧hget (H++l) i q=hget H i q:=by
 cases hel:isEl q with
 | false =>
  obtain ⟨n1,n2,_,_,_⟩:=notEl (P:=default) hel
  rw [n1] at h ⊢
  obtain ⟨p,k1,k2⟩:=hokV_spec h
  have k3:=hgetElem_mono (l:=l) k1
  rw [n2,n2]
  refine ⟨?_,?_⟩
  ·unfold hokV;rw [k3];simp
  ·unfold hvarOf;rw [k1,k3]
 | true =>
  obtain ⟨n,q',rfl⟩:=isEl_true hel
  obtain ⟨r,k1,k2,k3,k4⟩:=hokR_spec (show hokR H e i n=true from h)
  have k5:=hgetElem_mono (l:=l) k1
  refine ⟨?_,?_⟩
  ·show hokR (H++l) e i n=true
   unfold hokR;rw [k5];simp [k3,k4]
  ·show ((hrowOf (H++l) i).getD n.toNat .nil).get q'=((hrowOf H i).getD n.toNat .nil).get q'
   unfold hrowOf;rw [k1,k5]

theorem opQ0_congr (hB:∀ d x,d≠HL→Obs.get st.B d=some x→Obs.get st'.B d=some x)(hH:∃ l,Obs.hps st'.B=Obs.hps st.B++l){o:Oper}(hg:∀ x ∈ o.op.operands,∀ P t,st.get P t x=st'.get P t x){r:Out}(h:opQ0 E o st pairK=some r):opQ0 E o st' pairK=some r:=by
 cases hop:o.op with
 | load t x =>
  have e:=hg x (by rw [hop];simp [Op.operands])
  unfold opQ0 at h ⊢
  rw [hop] at h ⊢
  simp only at h ⊢
  rw [e] at h
  generalize st'.get E.P o.type x=s at h ⊢
  cases s with
  | ptr d q =>
   simp only at h ⊢
   cases hh:Obs.get st.B d with
   | none=>rw [hh] at h;cases h
   | some x =>
    rw [hB d x (fun hd=>by subst hd;obtain ⟨l,rfl,_⟩:=Obs.hp_of hh;rw [hh] at h;cases h) hh]
    rw [hh] at h;exact h
  | hptr e' i q =>
   simp only at h ⊢
   obtain ⟨h1,h⟩:=cond_some h
   simp only [Bool.and_eq_true] at h1
   obtain ⟨l,hl⟩:=hH
   obtain ⟨m1,m2⟩:=hok_mono (l:=l) h1.2
   rw [hl,m1,m2,h1.1.1,h1.1.2]
   exact h
  | _=>exact h
 | fieldAddr t x f =>
  have e:=hg x (by rw [hop];simp [Op.operands])
  unfold opQ0 at h ⊢
  rw [hop] at h ⊢
  simp only at h ⊢
  rw [e] at h
  generalize st'.get E.P o.type x=s at h ⊢
  cases s with
  | ptr d q =>
   revert h
   split
   ·split
    ·intro h
     obtain ⟨h1,h⟩:=cond_none h
     rw [h1,cond_false]
     simp only at h ⊢
     cases hh:Obs.get st.B d with
     | none=>rw [hh] at h;cases h
     | some x =>
      rw [hB d x (fun hd=>by subst hd;obtain ⟨l,rfl,_⟩:=Obs.hp_of hh;rw [hh] at h;cases h) hh]
      rw [hh] at h;exact h
    ·exact id
   ·exact id
  | _=>exact h
 | indexAddr t x i =>
  have e:=hg x (by rw [hop];simp [Op.operands])
  have e2:=hg i (by rw [hop];simp [Op.operands])
  unfold opQ0 at h ⊢
  rw [hop] at h ⊢
  simp only at h ⊢
  rw [e,e2] at h
  generalize st'.get E.P o.type x=s at h ⊢
  revert h
  split
  ·intro h
   obtain ⟨h1,h⟩:=cond_some h
   rw [h1,cond_true]
   cases s with
   | ptr d q =>
    simp only at h ⊢
    cases hh:Obs.get st.B d with
    | none=>rw [hh] at h;cases h
    | some x =>
     rw [hB d x (fun hd=>by subst hd;obtain ⟨l,rfl,_⟩:=Obs.hp_of hh;rw [hh] at h;cases h) hh]
     rw [hh] at h;exact h
   | _=>exact h
  ·intro h
   rename_i u _ _ _ _ _
   cases s with
   | own u' d =>
    simp only at h ⊢
    cases hh:Obs.get st.B d with
    | none=>rw [hh] at h;cases h
    | some x =>
     rw [hB d x (fun hd=>by subst hd;obtain ⟨l,rfl,_⟩:=Obs.hp_of hh;rw [hh] at h;cases h) hh]
     rw [hh] at h;exact h
   | _=>exact h
  ·exact id
 | convert s t x =>
  have e:=hg x (by rw [hop];simp [Op.operands])
  unfold opQ0 at h ⊢
  rw [hop] at h ⊢
  simp only at h ⊢
  rw [e] at h
  generalize st'.get E.P o.type x=sv at h ⊢
  split at h
  ·exact h
  ·exact h
  ·exact h
  ·rename_i sv2 _ _ _ e' hs ht
   cases hl:st.elems E.P e' sv2 with
   | none =>
    rw [hl] at h
    split at h <;> first
     | (cases h;done)
     | (rename_i h9;cases h9)
     | (rename_i h9 _;cases h9)
   | some l =>
    rw [elems_mono hB hl]
    rw [hl] at h;exact h
  ·cases h
 | call c =>
  obtain ⟨callee,args,ts⟩:=c
  have hargs:∀ t,args.toList.map (st.get E.P t)=args.toList.map (st'.get E.P t):=by
   intro t
   apply List.map_congr_left
   intro x hx
   exact hg x (by rw [hop];simp only [Op.operands,Call.operands];exact Array.mem_append_right _ (by simpa using hx)) _ _
  cases callee with
  | builtin b =>
   cases b with
   | len =>
    unfold opQ0 at h ⊢
    rw [hop] at h ⊢
    simp only at h ⊢
    rw [hargs] at h
    split at h
    ·split at h
     ·exact h
     ·exact h
     ·rename_i hx
      revert h
      generalize hsv:st.elems E.P _ _=y
      cases y with
      | none=>intro h;cases h
      | some l=>intro h;rw [elems_mono hB hsv];exact h
     ·cases h
    ·cases h
   | min =>
    unfold opQ0 at h ⊢
    rw [hop] at h ⊢
    simp only at h ⊢
    rw [hargs] at h
    exact h
   | max =>
    unfold opQ0 at h ⊢
    rw [hop] at h ⊢
    simp only at h ⊢
    rw [hargs] at h
    exact h
   | _=>unfold opQ0 at h;rw [hop] at h;cases h
  | value x =>
   cases x with
   | func f =>
    unfold opQ0 at h ⊢
    rw [hop] at h ⊢
    simp only at h ⊢
    rw [hargs] at h
    unfold callQ at h ⊢
    cases hf:E.P.funcs[f]? with
    | none=>rw [hf] at h;cases h
    | some fn =>
     rw [hf] at h
     simp only at h ⊢
     cases hp:passAll E.P st (fn.resultTypes.toList.all (isScalar E.P)) fn.params.toList (args.toList.map (st'.get E.P o.type)) with
     | none=>rw [hp] at h;cases h
     | some l=>rw [passAll_mono hB hp];rw [hp] at h;exact h
   | _=>unfold opQ0 at h;rw [hop] at h;cases h
  | _=>unfold opQ0 at h;rw [hop] at h;cases h
 | slice t x lo hi mx =>
  cases mx with
  | some m=>unfold opQ0 at h;rw [hop] at h;cases h
  | none =>
   have e:=hg x (by rw [hop];simp [Op.operands])
   have el:∀ y,lo=some y→∀ P t,st.get P t y=st'.get P t y:=fun y hy=>hg y (by rw [hop];simp [Op.operands,hy])
   have eh:∀ y,hi=some y→∀ P t,st.get P t y=st'.get P t y:=fun y hy=>hg y (by rw [hop];simp [Op.operands,hy])
   have e1:optInt st E.P lo=optInt st' E.P lo:=by
    cases lo with
    | none=>rfl
    | some y=>simp only [optInt];rw [el y rfl]
   have e2:optInt st E.P hi=optInt st' E.P hi:=by
    cases hi with
    | none=>rfl
    | some y=>simp only [optInt];rw [eh y rfl]
   unfold opQ0 at h ⊢
   rw [hop] at h ⊢
   simp only at h ⊢
   rw [e,e1,e2] at h
   exact h
 | build t ps =>
  have e:∀ t,ps.toList.map (fun x=>st.get E.P t x.2)=ps.toList.map (fun x=>st'.get E.P t x.2):=fun t=>List.map_congr_left fun x hx=>hg x.2 (by rw [hop];simp [Op.operands];exact ⟨x.1,by simpa using hx⟩) _ _
  unfold opQ0 at h ⊢
  rw [hop] at h ⊢
  simp only [e] at h ⊢
  exact h
 | buildSlice t n ps =>
  have e:∀ t,ps.toList.map (fun x=>st.get E.P t x.2)=ps.toList.map (fun x=>st'.get E.P t x.2):=fun t=>List.map_congr_left fun x hx=>hg x.2 (by rw [hop];simp [Op.operands];exact ⟨x.1,by simpa using hx⟩) _ _
  unfold opQ0 at h ⊢
  rw [hop] at h ⊢
  simp only [e] at h ⊢
  exact h
 | makeFunc f first caps =>
  have e:∀ t,caps.toList.map (st.get E.P t)=caps.toList.map (st'.get E.P t):=fun t=>List.map_congr_left fun x hx=>hg x (by rw [hop];simp only [Op.operands];exact Array.mem_append_right _ (by simpa using hx)) _ _
  cases f with
  | func f =>
   unfold opQ0 at h ⊢
   rw [hop] at h ⊢
   simp only [e] at h ⊢
   exact h
  | _=>unfold opQ0 at h;rw [hop] at h;cases h
 | alloc t =>
  unfold opQ0 at h ⊢
  rw [hop] at h ⊢
  exact h
 | pick c x y =>
  have e1:=hg c (by rw [hop];simp [Op.operands])
  have e2:=hg x (by rw [hop];simp [Op.operands])
  have e3:=hg y (by rw [hop];simp [Op.operands])
  unfold opQ0 at h ⊢
  rw [hop] at h ⊢
  simp only [e1,e2,e3] at h ⊢
  exact h
 | binOp op t x y u =>
  have e1:=hg x (by rw [hop];simp [Op.operands])
  have e2:=hg y (by rw [hop];simp [Op.operands])
  unfold opQ0 at h ⊢
  rw [hop] at h ⊢
  simp only [e1,e2] at h ⊢
  exact h
 | index t x y =>
  have e1:=hg x (by rw [hop];simp [Op.operands])
  have e2:=hg y (by rw [hop];simp [Op.operands])
  unfold opQ0 at h ⊢
  rw [hop] at h ⊢
  simp only [e1,e2] at h ⊢
  exact h
 | makeSlice t x y =>
  have e1:=hg x (by rw [hop];simp [Op.operands])
  have e2:=hg y (by rw [hop];simp [Op.operands])
  unfold opQ0 at h ⊢
  rw [hop] at h ⊢
  simp only [e1,e2] at h ⊢
  exact h
 | move x|assign x|box _ x|nilCheck x|field _ x _|extract x _|unOp _ _ x =>
  have e1:=hg x (by rw [hop];simp [Op.operands])
  unfold opQ0 at h ⊢
  rw [hop] at h ⊢
  simp only [e1] at h ⊢
  exact h
 | makeMap t r =>
  cases r with
  | none =>
   unfold opQ0 at h ⊢
   rw [hop] at h ⊢
   exact h
  | some _=>unfold opQ0 at h;rw [hop] at h;cases h
 | lookup t x i c =>
  cases c with
  | true=>unfold opQ0 at h;rw [hop] at h;cases h
  | false =>
   have e:=hg x (by rw [hop];simp [Op.operands])
   have e2:=hg i (by rw [hop];simp [Op.operands])
   unfold opQ0 at h ⊢
   rw [hop] at h ⊢
   simp only [e,e2] at h ⊢
   revert h
   split
   ·rename_i m _ _
    intro h
    cases hh:Obs.get st.B m with
    | none=>rw [hh] at h;cases h
    | some ob =>
     rw [hB m ob (fun hd=>by subst hd;obtain ⟨l,rfl,_⟩:=Obs.hp_of hh;rw [hh] at h;cases h) hh]
     rw [hh] at h;exact h
   ·exact id
 | _=>unfold opQ0 at h;rw [hop] at h;cases h

theorem opH_congr (hH:Obs.hps st'.B=Obs.hps st.B){o:Oper}(hg:∀ x ∈ o.op.operands,∀ P t,st.get P t x=st'.get P t x){r:Out}(h:opH E o st pairK=some r):opH E o st' pairK=some r:=by
 cases hop:o.op with
 | build t ps =>
  have e:∀ t,ps.toList.map (fun x=>st.get E.P t x.2)=ps.toList.map (fun x=>st'.get E.P t x.2):=fun t=>List.map_congr_left fun x hx=>hg x.2 (by rw [hop];simp [Op.operands];exact ⟨x.1,by simpa using hx⟩) _ _
  unfold opH at h ⊢
  rw [hop] at h ⊢
  simp only [e] at h ⊢
  exact h
 | buildSlice t n ps =>
  have e:∀ t,ps.toList.map (fun x=>st.get E.P t x.2)=ps.toList.map (fun x=>st'.get E.P t x.2):=fun t=>List.map_congr_left fun x hx=>hg x.2 (by rw [hop];simp [Op.operands];exact ⟨x.1,by simpa using hx⟩) _ _
  unfold opH at h ⊢
  rw [hop] at h ⊢
  simp only [e,hH] at h ⊢
  exact h
 | alloc t =>
  unfold opH at h ⊢
  rw [hop] at h ⊢
  simp only [hH] at h ⊢
  exact h
 | box t x =>
  have e1:=hg x (by rw [hop];simp [Op.operands])
  unfold opH at h ⊢
  rw [hop] at h ⊢
  simp only [e1,hH] at h ⊢
  exact h
 | makeSlice t x y =>
  have e1:=hg x (by rw [hop];simp [Op.operands])
  have e2:=hg y (by rw [hop];simp [Op.operands])
  unfold opH at h ⊢
  rw [hop] at h ⊢
  simp only [e1,e2,hH] at h ⊢
  exact h
 | _=>unfold opH at h;rw [hop] at h;cases h

theorem opQ_congr (hB:∀ d x,d≠HL→Obs.get st.B d=some x→Obs.get st'.B d=some x)(hH:∃ l,Obs.hps st'.B=Obs.hps st.B++l)(hA:Obs.hasH st'.B=Obs.hasH st.B){o:Oper}(hE:hpOp E o=true→o.op.makes=true→Obs.hps st'.B=Obs.hps st.B)
  (hg:∀ x ∈ o.op.operands,∀ P t,st.get P t x=st'.get P t x){r:Out}(h:opQ E o st pairK=some r):opQ E o st' pairK=some r:=by
 unfold opQ at h ⊢
 cases hp:hpOp E o with
 | false=>rw [hp] at h;exact opQ0_congr hB hH hg h
 | true =>
  rw [hp] at h
  simp only [cond_true] at h ⊢
  obtain ⟨h1,h⟩:=cond_some h
  rw [hA,h1,cond_true]
  by_cases hm:o.op.makes=true
  ·exact opH_congr (hE hp hm) hg h
  ·cases hop:o.op with
   | build t ps =>
    have e:∀ t,ps.toList.map (fun x=>st.get E.P t x.2)=ps.toList.map (fun x=>st'.get E.P t x.2):=fun t=>List.map_congr_left fun x hx=>hg x.2 (by rw [hop];simp [Op.operands];exact ⟨x.1,by simpa using hx⟩) _ _
    unfold opH at h ⊢
    rw [hop] at h ⊢
    simp only [e] at h ⊢
    exact h
   | alloc _=>rw [hop] at hm;exact absurd rfl hm
   | box _ _=>rw [hop] at hm;exact absurd rfl hm
   | buildSlice _ _ _=>rw [hop] at hm;exact absurd rfl hm
   | makeSlice _ _ _=>rw [hop] at hm;exact absurd rfl hm
   | _=>unfold opH at h;rw [hop] at h;cases h

end
end Go.X
namespace Go.X
open Go

def pureOp (o:Oper):Bool :=
 match o.op with
 | .extract _ _=>true
 | .move _=>true
 | .assign _=>true
 | .slice _ _ _ _ _=>true
 | .indexAddr _ _ _=>true
 | .fieldAddr _ _ _=>true
 | .nilCheck _=>true
 | _=>false
def dstA (ops:Array Oper)(o:Oper):Option Nat:=bif skipOp ops o then none else o.dst
def lateAt (ops:Array Oper)(j:Nat):Bool:=match ops[j]? with|some o=>skipOp ops o|none=>true
def freeP (ops:Array Oper)(j:Nat):Bool :=
 match ops[j]? with
 | some o=>pureOp o &&
  ((List.range ops.size).all fun k=>k==j || (k.blt j&&!lateAt ops k) || k.blt (nHead ops) || (match ops[k]? with
   | some y=>(y.after.toList.any fun e=>Region.binds .any e&&e.on==j) || o.apart ops y
   | none=>true))
 | none=>false
def freeT (ops:Array Oper)(j:Nat):Bool :=
 match ops[j]? with
 | some o=>pureOp o&&((List.range ops.size).all fun k=>k.ble j || !tailAt ops k || (match ops[k]? with
   | some y=>(y.after.toList.any fun e=>Region.binds .any e&&e.on==j) || o.apart ops y
   | none=>true))
 | none=>false
def fastB (ops:Array Oper)(bf:Array Nat)(i:Nat):Bool :=
 (List.range ops.size).all fun j=>!tailAt ops j || (bf.getD j 0).testBit i
def tailsP (ops:Array Oper)(bf:Array Nat):List Nat→Bool
 | []=>true
 | k :: ks=>((ks.all fun j=>(bf.getD j 0).testBit k) || freeT ops k)&&tailsP ops bf ks

def tailsX (ops:Array Oper)(bf:Array Nat)(ks X Y Z:List Nat):Bool :=
 let dst:=fun j=>((ops[j]?).bind (·.dst)).getD 0
 let looks:=fun j d=>opAt ops (fun o=>(o.looksAt ops).contains d) j
 let edge:=fun j i=>opAt ops (fun o=>o.after.toList.any fun e=>Region.binds .any e&&e.on==i) j
 (ks.all fun k=>Y.contains k || Z.contains k)&&(((X.all fun k=>!lateAt ops k&&opAt ops isQ3 k)&&(Y.all fun k=>ks.contains k&&opAt ops isY1 k))&&(Z.all fun k=>ks.contains k&&!Y.contains k)) &&
 ((Y.all fun j=>Y.all fun i=>j.ble i || (bf.getD j 0).testBit i)&&(Z.all fun j=>(X.all fun i=>(bf.getD j 0).testBit i)&&(Y.all fun i=>(bf.getD j 0).testBit i))) &&
 (((List.range ops.size).all fun j=>lateAt ops j || (X.contains j || X.all fun x=>!edge j x))&&(X.all fun x=>(!looks x (dst x)&&(dst x).blt lowB)&&X.all fun z=>x==z || (!(dst z==dst x)&&(!looks x (dst z) || edge x z)))) &&
 ((Y.all fun y=>X.all fun z=>(!looks y (dst z) || (bf.getD y 0).testBit z)&&!(dst y==dst z))&&tailsP ops bf Z)
def tailsAll (ops:Array Oper)(bf:Array Nat)(ks:List Nat):Bool :=
 bif anyReg ops then tailsX ops bf ks (xIx ops) (y1Ix ops) (y2Ix ops) else tailsP ops bf ks

def freshOk (ops:Array Oper)(j:Nat):Bool :=
 match ops[j]? with
 | some o =>
  (match o.op with
  | .store _ (.tmp a) _=>o.dst.isNone&&((List.range ops.size).all fun k=>k==j || (match ops[k]? with|some y=>!(y.looksAt ops).contains a|none=>true))
  | _=>true)
 | none=>true

def linOk (ops:Array Oper)(j:Nat):Bool :=
 match ops[j]? with
 | some o =>
  (match linOf ops o with
  | some a=>(List.range ops.size).all fun k=>k==j || (match ops[k]? with|some y=>!(y.looksAt ops).contains a|none=>true)
  | none=>true)
 | none=>true

def heldAt (ops:Array Oper)(j:Nat):Bool:=anyReg ops&&(xIx ops).contains j
def heldFree (ops:Array Oper)(j:Nat):Bool :=
 !anyReg ops || (xIx ops).all fun k=>k==j || (match ops[k]?,ops[j]? with|some x,some o=>(x.after.toList.any fun e=>Region.binds .any e&&e.on==j) || o.apart ops x|_,_=>false)
def dOk (ops:Array Oper):Bool :=
 let bf:=Region.before ops
 let h:=nHead ops
 let ks:=(List.range ops.size).filter fun k=>tailAt ops k
 Region.noSelect ops &&
 ((List.range ops.size).all fun j=>match ops[j]? with|some o=>o.after.toList.all fun e=>!Region.binds .any e || e.on.blt j|none=>true) &&
 ((List.range ops.size).all fun j=>lateAt ops j || ((List.range j).all fun i=>lateAt ops i || (bf.getD j 0).testBit i || (match ops[i]?,ops[j]? with|some x,some y=>x.apart ops y|_,_=>false))) &&
 ((List.range ops.size).all fun j=>h.ble j || (lateAt ops j&&!tailAt ops j&&((List.range ops.size).all fun i=>i.ble j || (bf.getD i 0).testBit j))) &&
 ((List.range ops.size).all fun j=>j.blt h || !lateAt ops j || tailAt ops j) &&
 tailsAll ops bf ks &&
 ((List.range ops.size).all fun j=>lateAt ops j || ((ops[j]?.map fun o=>o.after.toList.all fun e=>!Region.binds .any e || (e.on.blt h || !lateAt ops e.on)).getD false&&(fastB ops bf j || (freeP ops j&&heldFree ops j) || heldAt ops j))) &&
 ((List.range ops.size).all fun j=>lateAt ops j || freshOk ops j) &&
 ((List.range ops.size).all fun j=>linOk ops j) &&
 nodupB (ops.toList.filterMap (dstA ops))&&(ops.toList.all fun o=>skipOp ops o || ((o.dst.getD 0).blt lowB&&(!laysOp o || o.dst.isSome)))

inductive Bef (ops:Array Oper):Nat→Nat→Prop
 | edge {j o e}:ops[j]?=some o→e ∈ o.after→Region.binds .any e=true→Bef ops j e.on
 | trans {j o e i}:ops[j]?=some o→e ∈ o.after→Region.binds .any e=true→Bef ops e.on i→Bef ops j i

theorem inner_fold (acc:Array Nat):∀ (l:List Edge)(s i:Nat),(l.foldl (fun s e=>if Region.binds .any e then s ||| 2 ^ e.on ||| acc.getD e.on 0 else s) s).testBit i=true →
  s.testBit i=true∨∃ e ∈ l,Region.binds .any e=true∧(i=e.on∨(acc.getD e.on 0).testBit i=true)
 | [],s,i,h=>.inl h
 | e :: l,s,i,h=>by
  rw [List.foldl_cons] at h
  rcases inner_fold acc l _ i h with h1|⟨e',h1,h2,h3⟩
  ·by_cases hb:Region.binds .any e=true
   ·rw [if_pos hb,Nat.testBit_or,Nat.testBit_or] at h1
    simp only [Bool.or_eq_true] at h1
    rcases h1 with (h1|h1)|h1
    ·exact .inl h1
    ·rw [Nat.testBit_two_pow] at h1
     exact .inr ⟨e,by simp,hb,.inl (by simpa using (of_decide_eq_true h1).symm)⟩
    ·exact .inr ⟨e,by simp,hb,.inr h1⟩
   ·rw [if_neg hb] at h1;exact .inl h1
  ·exact .inr ⟨e',List.mem_cons_of_mem _ h1,h2,h3⟩

theorem before_fold (ops:Array Oper):∀ (l:List Oper)(acc:Array Nat),(∀ j,l[j]?=ops[acc.size+j]?)→(∀ j i,(acc.getD j 0).testBit i=true→Bef ops j i) →
  ∀ j i,((l.foldl (fun acc o=>acc.push (o.after.foldl (fun s e=>if Region.binds .any e then s ||| 2 ^ e.on ||| acc.getD e.on 0 else s) 0)) acc).getD j 0).testBit i=true→Bef ops j i
 | [],acc,_,hacc,j,i,h=>hacc j i h
 | o :: l,acc,hl,hacc,j,i,h=>by
  rw [List.foldl_cons] at h
  refine before_fold ops l _ (fun k=>?_) (fun k i hk=>?_) j i h
  ·rw [Array.size_push]
   have:=hl (k+1)
   rw [List.getElem?_cons_succ] at this
   rw [this];congr 1;omega
  ·by_cases hks:k=acc.size
   ·subst hks
    have ho:ops[acc.size]?=some o:=by have:=hl 0;simpa using this.symm
    rw [Array.getD_eq_getD_getElem?,Array.getElem?_push_size,Option.getD_some] at hk
    rw [←Array.foldl_toList] at hk
    rcases inner_fold acc o.after.toList 0 i hk with h1|⟨e,h1,h2,h3⟩
    ·simp at h1
    ·have he:e ∈ o.after:=by simpa using h1
     rcases h3 with h3|h3
     ·subst h3;exact .edge ho he h2
     ·exact .trans ho he h2 (hacc _ _ h3)
   ·rw [Array.getD_eq_getD_getElem?,Array.getElem?_push] at hk
    rw [if_neg (fun h=>hks h)] at hk
    exact hacc k i (by rw [Array.getD_eq_getD_getElem?];exact hk)

theorem before_spec (ops:Array Oper){j i:Nat}(h:((Region.before ops).getD j 0).testBit i=true):Bef ops j i:=by
 unfold Region.before at h
 rw [←Array.foldl_toList] at h
 exact before_fold ops ops.toList #[] (fun j=>by simp) (fun j i h=>by simp at h) j i h

def Closed (ops:Array Oper)(listed:Array Bool):Prop :=
 ∀ (j:Nat)(o:Oper),ops[j]?=some o→listed.getD j false=true→∀ e ∈ o.after,Region.binds .any e=true→listed.getD e.on false=true

theorem closed_bef {ops:Array Oper}{listed:Array Bool}(hc:Closed ops listed){j i:Nat}(h:Bef ops j i):(∀ o,ops[j]?=some o→∀ e ∈ o.after,Region.binds .any e=true→listed.getD e.on false=true)→listed.getD i false=true:=by
 induction h with
 | edge ho he hb=>exact fun h=>h _ ho _ he hb
 | trans ho he hb _ ih =>
  intro h
  have hk:=h _ ho _ he hb
  exact ih fun o' ho'=>hc _ o' ho' hk

theorem bef_listed {ops:Array Oper}{listed:Array Bool}(hc:Closed ops listed){j i:Nat}(h:Bef ops j i)(hj:listed.getD j false=true):listed.getD i false=true :=
 closed_bef hc h fun o ho=>hc j o ho hj

theorem getD_set (listed:Array Bool)(i j:Nat)(d:Bool)(hi:i < listed.size):(listed.setIfInBounds i true).getD j d=if i=j then true else listed.getD j d:=by
 by_cases h:i=j
 ·subst h;rw [if_pos rfl];simp [hi]
 ·rw [if_neg h];exact getD_set_ne d h

theorem closed_set {ops:Array Oper}{listed:Array Bool}(hc:Closed ops listed){i:Nat}(hi:i < listed.size)(hr:∀ o,ops[i]?=some o→∀ e ∈ o.after,Region.binds .any e=true→listed.getD e.on false=true):Closed ops (listed.setIfInBounds i true):=by
 intro j o ho hj e he hb
 rw [getD_set _ _ _ _ hi] at hj ⊢
 by_cases h:i=e.on
 ·rw [if_pos h]
 ·rw [if_neg h]
  by_cases hij:i=j
  ·subst hij;exact hr o ho e he hb
  ·rw [if_neg hij] at hj;exact hc j o ho hj e he hb

def unl (ops:Array Oper)(listed:Array Bool):Nat→Nat
 | 0=>0
 | k+1=>unl ops listed k+(if listed.getD k false=true∨lateAt ops k=true then 0 else 1)
theorem unl_zero {ops:Array Oper}{listed:Array Bool}:∀ {m:Nat},unl ops listed m=0→∀ j,j < m→lateAt ops j=false→listed.getD j false=true
 | 0,_,j,hj,_=>by omega
 | m+1,h,j,hj,hl=>by
  unfold unl at h
  by_cases hlm:listed.getD m false=true∨lateAt ops m=true
  ·rw [if_pos hlm] at h
   by_cases hjm:j=m
   ·subst hjm
    rcases hlm with h|h
    ·exact h
    ·rw [hl] at h;cases h
   ·exact unl_zero (m:=m) h j (by omega) hl
  ·rw [if_neg hlm] at h;omega
theorem unl_set {ops:Array Oper}{listed:Array Bool}{i:Nat}(hi:i < listed.size)(hu:listed.getD i false=false)(hl:lateAt ops i=false):∀ m,(m≤i→unl ops (listed.setIfInBounds i true) m=unl ops listed m)∧(i < m→unl ops (listed.setIfInBounds i true) m+1=unl ops listed m)
 | 0=>⟨fun _=>rfl,fun h=>by omega⟩
 | m+1=>by
  obtain ⟨h1,h2⟩:=unl_set hi hu hl m
  unfold unl
  rw [getD_set _ _ _ _ hi]
  by_cases him:i=m
  ·subst him
   rw [if_pos rfl]
   refine ⟨fun h=>by omega,fun _=>?_⟩
   rw [h1 (Nat.le_refl _),hu,hl];simp
  ·rw [if_neg him]
   generalize (if listed.getD m false=true∨lateAt ops m=true then 0 else 1)=c
   exact ⟨fun h=>by rw [h1 (by omega)],fun h=>by have:=h2 (by omega);omega⟩
theorem unl_ex {ops:Array Oper}{listed:Array Bool}:∀ {m:Nat},unl ops listed m≠0→∃ k,k < m∧listed.getD k false=false∧lateAt ops k=false∧∀ j,j < k→lateAt ops j=false→listed.getD j false=true
 | 0,h=>absurd rfl h
 | m+1,h=>by
  by_cases h0:unl ops listed m=0
  ·refine ⟨m,by omega,?_,?_,unl_zero h0⟩
   all_goals
    unfold unl at h
    rw [h0] at h
    by_cases hl:listed.getD m false=true∨lateAt ops m=true
    ·rw [if_pos hl] at h;omega
   ·simp only [not_or,Bool.not_eq_true] at hl;exact hl.1
   ·simp only [not_or,Bool.not_eq_true] at hl;exact hl.2
  ·obtain ⟨k,k1,k2,k3,k4⟩:=unl_ex (m:=m) h0
   exact ⟨k,by omega,k2,k3,k4⟩

def TailsP (ops:Array Oper):List Nat→Prop
 | []=>True
 | k :: ks=>((∀ j ∈ ks,Bef ops j k)∨freeT ops k=true)∧TailsP ops ks
theorem tailsP_spec {ops:Array Oper}:∀ (ks:List Nat),tailsP ops (Region.before ops) ks=true→TailsP ops ks
 | [],_=>trivial
 | k :: ks,h=>by
  have h:(((ks.all fun j=>((Region.before ops).getD j 0).testBit k) || freeT ops k)&&tailsP ops (Region.before ops) ks)=true:=h
  rw [Bool.and_eq_true,Bool.or_eq_true] at h
  refine ⟨?_,tailsP_spec ks h.2⟩
  rcases h.1 with h|h
  ·exact .inl fun j hj=>before_spec ops (List.all_eq_true.1 h j hj)
  ·exact .inr h
structure Pend (ops:Array Oper)(ks X Y Z:List Nat):Prop where
 part:∀ k ∈ ks,k ∈ Y∨k ∈ Z
 xk:∀ x ∈ X,lateAt ops x=false∧∃ o d,ops[x]?=some o∧isQ3 o=true∧o.dst=some d∧d < lowB∧d ∉ o.looksAt ops
 yk:∀ y ∈ Y,y ∈ ks∧∃ o d,ops[y]?=some o∧isY1 o=true∧o.dst=some d
 zk:∀ z ∈ Z,z ∈ ks∧z ∉ Y
 yy:∀ i ∈ Y,∀ j ∈ Y,i < j→Bef ops j i
 zx:∀ j ∈ Z,(∀ i ∈ X,Bef ops j i)∧∀ i ∈ Y,Bef ops j i
 no:∀ j o,ops[j]?=some o→lateAt ops j=false→j ∉ X→∀ x ∈ X,∀ e ∈ o.after,Region.binds .any e=true→e.on≠x
 xx:∀ x ∈ X,∀ z ∈ X,x≠z→∀ o p d,ops[x]?=some o→ops[z]?=some p→p.dst=some d→o.dst≠some d∧(d ∈ o.looksAt ops→∃ e ∈ o.after,Region.binds .any e=true∧e.on=z)
 yx:∀ y ∈ Y,∀ z ∈ X,∀ o p d,ops[y]?=some o→ops[z]?=some p→p.dst=some d→(d ∈ o.looksAt ops→Bef ops y z)∧o.dst≠some d
 tails:TailsP ops Z
theorem opAt_of {ops:Array Oper}{p:Oper→Bool}{j:Nat}(h:opAt ops p j=true):∃ o,ops[j]?=some o∧p o=true:=by
 unfold opAt at h
 split at h
 ·exact ⟨_,by assumption,h⟩
 ·cases h
theorem opAt_eq {ops:Array Oper}{p:Oper→Bool}{j:Nat}{o:Oper}(h:ops[j]?=some o):opAt ops p j=p o:=by unfold opAt;rw [h]
theorem isQ3_of {o:Oper}(h:isQ3 o=true):o.guard=none∧(∃ d,o.dst=some d)∧((∃ t a,o.op=.load t (.tmp a))∨(∃ t a f,o.op=.fieldAddr t (.tmp a) f)∨∃ t a i,o.op=.indexAddr t (.tmp a) i):=by
 unfold isQ3 at h
 simp only [Bool.and_eq_true,Option.isNone_iff_eq_none] at h
 obtain ⟨⟨h1,h2⟩,h3⟩:=h
 refine ⟨h2,Option.isSome_iff_exists.1 h1,?_⟩
 split at h3
 ·exact .inl ⟨_,_,by assumption⟩
 ·exact .inr (.inl ⟨_,_,_,by assumption⟩)
 ·exact .inr (.inr ⟨_,_,_,by assumption⟩)
 ·cases h3
theorem isY1_of {o:Oper}(h:isY1 o=true):o.guard=none∧(∃ d,o.dst=some d)∧((∃ f args ts,o.op=.call { callee:=.value (.func f),args:=args,argTypes:=ts })∨(∃ t n ps,o.op=.buildSlice t n ps)∨(∃ t ps,o.op=.build t ps)∨∃ args ts,o.op=.call { callee:=.builtin .append,args:=args,argTypes:=ts }):=by
 unfold isY1 at h
 split at h
 ·rename_i f args ts hop
  simp only [Bool.and_eq_true,Option.isNone_iff_eq_none] at h
  exact ⟨h.2,Option.isSome_iff_exists.1 h.1,.inl ⟨_,_,_,hop⟩⟩
 ·rename_i t n ps hop
  simp only [Bool.and_eq_true,Option.isNone_iff_eq_none] at h
  exact ⟨h.2,Option.isSome_iff_exists.1 h.1,.inr (.inl ⟨_,_,_,hop⟩)⟩
 ·rename_i t ps hop
  simp only [Bool.and_eq_true,Option.isNone_iff_eq_none] at h
  exact ⟨h.2,Option.isSome_iff_exists.1 h.1,.inr (.inr (.inl ⟨_,_,hop⟩))⟩
 ·rename_i args ts hop
  simp only [Bool.and_eq_true,Option.isNone_iff_eq_none] at h
  exact ⟨h.2,Option.isSome_iff_exists.1 h.1,.inr (.inr (.inr ⟨_,_,hop⟩))⟩
 ·cases h
theorem pend_of {ops:Array Oper}{ks X Y Z:List Nat}(h:tailsX ops (Region.before ops) ks X Y Z=true):Pend ops ks X Y Z:=by
 unfold tailsX at h
 simp only [Bool.and_eq_true,List.all_eq_true,Bool.or_eq_true,List.contains_iff_mem,Bool.not_eq_true',decide_eq_true_eq] at h
 obtain ⟨⟨⟨⟨h1,⟨h2,h3⟩,h4⟩,h5,h6⟩,h7,h8⟩,h9,h10⟩:=h
 have dstE:∀ {j:Nat}{o:Oper}{d:Nat},ops[j]?=some o→o.dst=some d→((ops[j]?).bind (·.dst)).getD 0=d:=fun hj hd=>by rw [hj];simp [hd]
 have edgeE:∀ {j i:Nat}{o:Oper},ops[j]?=some o→opAt ops (fun o=>o.after.toList.any fun e=>Region.binds .any e&&e.on==i) j=true→∃ e ∈ o.after,Region.binds .any e=true∧e.on=i:=fun hj he=>by
  rw [opAt_eq hj] at he
  simp only [List.any_eq_true,Bool.and_eq_true,beq_iff_eq] at he
  obtain ⟨e,h1,h2,h3⟩:=he
  exact ⟨e,by simpa using h1,h2,h3⟩
 refine ⟨h1,fun x hx=>?_,fun y hy=>?_,fun z hz=>?_,fun i hi j hj hij=>?_,fun j hj=>⟨fun i hi=>before_spec ops ((h6 j hj).1 i hi),fun i hi=>before_spec ops ((h6 j hj).2 i hi)⟩,?_,?_,?_,tailsP_spec _ h10⟩
 ·obtain ⟨g1,g2⟩:=h2 x hx
  obtain ⟨o,ho,hq⟩:=opAt_of g2
  obtain ⟨_,⟨d,hd⟩,_⟩:=isQ3_of hq
  obtain ⟨⟨g3,g4⟩,g5⟩:=h8 x hx
  rw [opAt_eq ho] at g3
  rw [dstE ho hd] at g3 g4
  exact ⟨g1,o,d,ho,hq,hd,by simpa using g4,by simpa using g3⟩
 ·obtain ⟨g1,g2⟩:=h3 y hy
  obtain ⟨o,ho,hq⟩:=opAt_of g2
  obtain ⟨_,⟨d,hd⟩,_⟩:=isY1_of hq
  exact ⟨g1,o,d,ho,hq,hd⟩
 ·obtain ⟨g1,g3⟩:=h4 z hz
  exact ⟨g1,by simpa using g3⟩
 ·rcases h5 j hj i hi with h|h
  ·have:=Nat.le_of_ble_eq_true h;omega
  ·exact before_spec ops h
 ·intro j o ho hl hX x hx e he hb hon
  have hj:j < ops.size:=(Array.getElem?_eq_some_iff.1 ho).1
  rcases h7 j (List.mem_range.2 hj) with g|g|g
  ·rw [hl] at g;cases g
  ·exact hX g
  ·have g:=g x hx
   rw [opAt_eq ho] at g
   rw [List.any_eq_false] at g
   have:=g e (by simpa using he)
   simp [hb,hon] at this
 ·intro x hx z hz hne o p d ho hp hd
  obtain ⟨_,g⟩:=h8 x hx
  rcases g z hz with g|⟨g1,g2⟩
  ·exact absurd (by simpa using g) hne
  ·rw [dstE hp hd] at g1 g2
   refine ⟨fun e=>?_,fun hl=>?_⟩
   ·rw [dstE ho e] at g1;simp at g1
   ·rcases g2 with g2|g2
    ·rw [opAt_eq ho] at g2
     simp [hl] at g2
    ·exact edgeE ho g2
 ·intro y hy z hz o p d ho hp hd
  obtain ⟨g1,g2⟩:=h9 y hy z hz
  rw [dstE hp hd] at g1 g2
  refine ⟨fun hl=>?_,fun e=>?_⟩
  ·rcases g1 with g1|g1
   ·rw [opAt_eq ho] at g1
    simp [hl] at g1
   ·exact before_spec ops g1
  ·rw [dstE ho e] at g2;simp at g2
def TailsAll (ops:Array Oper)(ks:List Nat):Prop :=
 (anyReg ops=true→Pend ops ks (xIx ops) (y1Ix ops) (y2Ix ops))∧(anyReg ops=false→TailsP ops ks)
theorem tailsAll_spec {ops:Array Oper}(ks:List Nat)(h:tailsAll ops (Region.before ops) ks=true):TailsAll ops ks:=by
 unfold tailsAll at h
 refine ⟨fun ha=>?_,fun ha=>?_⟩
 ·rw [ha,cond_true] at h
  exact pend_of h
 ·rw [ha,cond_false] at h
  exact tailsP_spec ks h
def wpP (P:Program)(ops:Array Oper)(Q:Exit→Act→World→Prop):List Nat→Act→World→Prop
 | [],a,w=>Q .normal a w
 | k :: ks,a,w=>wpOp P ops Q k (wpP P ops Q ks) a w
theorem wpOps_wpT {P:Program}{ops:Array Oper}{Q:Exit→Act→World→Prop}:∀ (ks:List Nat)(a:Act)(w:World),wpOps P ops Q ks a w→wpP P ops Q ks a w
 | [],a,w,h=>h
 | k :: ks,a,w,h=>by
  rw [wpOps_cons] at h
  exact wpOp_mono (fun a w h=>wpOps_wpT ks a w h) h

def PureY (P:Program)(ops:Array Oper)(Q:Exit→Act→World→Prop):Prop :=
 ∀ {j:Nat}{o:Oper},ops[j]?=some o→pureOp o=true→∀ {K:Act→World→Prop}{a:Act}{w:World},wpOp P ops Q j K a w→∃ v,Yields P ops o v a∧K (a.put o.dst v) w

theorem any_cons {P:Program}{ops:Array Oper}{Q:Exit→Act→World→Prop}{k:Nat}{listed:Array Bool}{a:Act}{w:World}(hs:listed.size=ops.size)(hc:Closed ops listed)(hkl:k < ops.size)(hk:listed.getD k false=false)
  (hr:∀ o,ops[k]?=some o→∀ e ∈ o.after,Region.binds .any e=true→listed.getD e.on false=true)(hall:∀ j,j < ops.size→listed.getD j false=false→j=k∨Bef ops j k){n:Nat}{K:Act→World→Prop}
  (hK:∀ a w,K a w→wpAny P .any ops Q n (listed.setIfInBounds k true) a w)(h:wpOp P ops Q k K a w):wpAny P .any ops Q (n+1) listed a w:=by
 have getb:∀ i (b:Bool),i < ops.size→listed.getD i b=listed.getD i false:=by
  intro i b hi
  rw [Array.getD_eq_getD_getElem?,Array.getD_eq_getD_getElem?,Array.getElem?_eq_getElem (by omega)];rfl
 have hko:ops[k]?=some ops[k]:=Array.getElem?_eq_getElem hkl
 have hready:k ∈ Region.ready .any ops listed:=mem_ready.2 ⟨by rw [getb k true hkl];exact hk,_,hko,hr _ hko⟩
 refine ⟨(fun h0=>by rw [h0] at hready;cases hready),fun i hi=>?_⟩
 obtain ⟨h1,o,ho,h2⟩:=mem_ready.1 hi
 have hil:=(Array.getElem?_eq_some_iff.1 ho).1
 rw [getb i true hil] at h1
 have hik:i=k:=by
  rcases hall i hil h1 with h|h
  ·exact h
  ·exfalso
   have:=closed_bef hc h (fun o' ho' e he hb=>h2 e (by rw [ho] at ho';injection ho' with ho';rw [ho'];exact he) hb)
   rw [hk] at this;cases this
 subst hik
 exact wpOp_mono (fun a w h=>hK a w h) h

theorem any_tail {P:Program}{ops:Array Oper}{Q:Exit→Act→World→Prop}(hsel:Region.noSelect ops=true)(hQn:∀ e a w,Q e a w→e=.normal)(hpure:PureY P ops Q)(hlt:∀ (j:Nat)(o:Oper),ops[j]?=some o→∀ e ∈ o.after,Region.binds .any e=true→e.on < j) :
  ∀ (ks:List Nat)(listed:Array Bool)(a:Act)(w:World),ks.Pairwise (· < ·)→(∀ k ∈ ks,k < ops.size∧tailAt ops k=true)→listed.size=ops.size→Closed ops listed →
   (∀ j,j < ops.size→(listed.getD j false=false ↔ j ∈ ks))→TailsP ops ks→wpP P ops Q ks a w→wpAny P .any ops Q ks.length listed a w
 | [],listed,a,w,hp,hks,hs,hc,hl,ht,h=>by
  have h:Q .normal a w:=h
  refine ⟨?_,h⟩
  rw [List.eq_nil_iff_forall_not_mem]
  intro i hi
  obtain ⟨h1,o,ho,_⟩:=mem_ready.1 hi
  have hlt':=(Array.getElem?_eq_some_iff.1 ho).1
  have h2:=hl i hlt'
  rw [Array.getD_eq_getD_getElem?,Array.getElem?_eq_getElem (by omega),Option.getD_some] at h1
  rw [Array.getD_eq_getD_getElem?,Array.getElem?_eq_getElem (by omega),Option.getD_some] at h2
  have:=h2.1 h1
  simp at this
 | k :: ks,listed,a,w,hp,hks,hs,hc,hl,ht,h=>by
  obtain ⟨hkl,hklate⟩:=hks k (by simp)
  have hko:ops[k]?=some ops[k]:=Array.getElem?_eq_getElem hkl
  have getb:∀ i (b:Bool),i < ops.size→listed.getD i b=listed.getD i false:=by
   intro i b hi
   rw [Array.getD_eq_getD_getElem?,Array.getD_eq_getD_getElem?,Array.getElem?_eq_getElem (by omega)];rfl
  rw [List.pairwise_cons] at hp
  have hready:k ∈ Region.ready .any ops listed:=mem_ready.2 ⟨by rw [getb k true hkl];exact (hl k hkl).2 (by simp),_,hko,fun e he hb=>by
   have hek:=hlt k _ hko e he hb
   cases hg:listed.getD e.on false with
   | true=>rfl
   | false =>
    have:=(hl e.on (by omega)).1 hg
    rcases List.mem_cons.1 this with h|h
    ·omega
    ·have:=hp.1 _ h;omega⟩
  have more:∀ i,i ∈ k :: ks→(∀ o,ops[i]?=some o→∀ e ∈ o.after,Region.binds .any e=true→listed.getD e.on false=true)→Closed ops (listed.setIfInBounds i true)∧∀ j,j < ops.size→((listed.setIfInBounds i true).getD j false=false ↔ j ∈ (k :: ks)∧j≠i):=by
   intro i hi hr
   have hil:=(hks i hi).1
   refine ⟨closed_set hc (by omega) hr,fun j hj=>?_⟩
   rw [getD_set _ _ _ _ (by omega)]
   by_cases hij:i=j
   ·subst hij;simp
   ·rw [if_neg hij,hl j hj]
    exact ⟨fun h=>⟨h,fun e=>hij e.symm⟩,fun h=>h.1⟩
  have hkr:∀ o,ops[k]?=some o→∀ e ∈ o.after,Region.binds .any e=true→listed.getD e.on false=true:=by
   intro o ho e he hb
   obtain ⟨_,o',ho',h2⟩:=mem_ready.1 hready
   rw [ho] at ho';injection ho' with ho';subst ho'
   exact h2 e he hb
  have memk:∀ j,(j ∈ (k :: ks)∧j≠k) ↔ j ∈ ks:=by
   intro j
   rw [List.mem_cons]
   refine ⟨fun q=>q.1.resolve_left q.2,fun q=>⟨.inr q,fun e=>?_⟩⟩
   subst e
   have:=hp.1 _ q;omega
  have plain:((∀ j ∈ ks,Bef ops j k)∨freeT ops k=true)→TailsP ops ks→wpOp P ops Q k (wpP P ops Q ks) a w→wpAny P .any ops Q (k :: ks).length listed a w:=by
   intro ht1 ht2 h
   rcases ht1 with ht1|ht1
   ·obtain ⟨m1,m2⟩:=more k (by simp) hkr
    refine any_cons hs hc hkl ((hl k hkl).2 (by simp)) hkr (fun j hj hj2=>?_) (fun a w h=>any_tail hsel hQn hpure hlt ks _ a w hp.2 (fun k hk=>hks k (List.mem_cons_of_mem _ hk)) (by simpa using hs) m1 (fun j hj=>by rw [m2 j hj,memk]) ht2 h) h
    rcases List.mem_cons.1 ((hl j hj).1 hj2) with h|h
    ·exact .inl h
    ·exact .inr (ht1 j h)
   ·-- one that is taken
    unfold freeT at ht1
    rw [hko] at ht1
    simp only [Bool.and_eq_true,List.all_eq_true,List.mem_range] at ht1
    obtain ⟨v,hy,h⟩:=hpure hko ht1.1 h
    obtain ⟨m1,m2⟩:=more k (by simp) hkr
    refine wpAny_take hko hsel ?_ (by simpa using hready) (fun ch a w h=>by cases hQn _ _ _ h) hy (any_tail hsel hQn hpure hlt ks _ _ w hp.2 (fun k hk=>hks k (List.mem_cons_of_mem _ hk)) (by simpa using hs) m1 (fun j hj=>by rw [m2 j hj,memk]) ht2 h)
    unfold Region.free
    rw [hko]
    simp only [List.all_eq_true,List.mem_range,Bool.or_eq_true]
    intro j hj
    cases hlj:listed.getD j true with
    | true=>exact .inl (.inr rfl)
    | false =>
     rw [getb j true hj] at hlj
     have hm:=(hl j hj).1 hlj
     rcases List.mem_cons.1 hm with h|h
     ·exact .inl (.inl (by simpa using h))
     ·right
      have hkj:k < j:=hp.1 j h
      have:=ht1.2 j hj
      rw [(hks j hm).2] at this
      simp only [Bool.or_eq_true,Bool.not_true,Bool.false_eq_true,or_false] at this
      rcases this with h2|h2
      ·have h2:j≤k:=by simpa using h2
       omega
      ·rw [Array.getElem?_eq_getElem hj] at h2 ⊢
       simp only [Bool.or_eq_true] at h2 ⊢
       rcases h2 with h2|h2
       ·refine .inl ?_
        rw [List.any_eq_true] at h2
        obtain ⟨e,he,hb⟩:=h2
        exact Array.any_eq_true'.2 ⟨e,by simpa using he,hb⟩
       ·exact .inr h2
  exact plain ht.1 ht.2 h

end Go.X
namespace Go.X
open Go
section
variable {E : Env}

def putT (T:List SV)(d:Option Nat)(s:SV):List SV:=match d with|some d=>T.set d s|none=>T
theorem put_eq (T:List SV)(B:Obs)(d:Option Nat)(s:SV):({ T:=T,B:=B }:St).put d s={ T:=putT T d s,B:=B }:=by cases d <;> rfl
theorem putT_len (T:List SV)(d:Option Nat)(s:SV):(putT T d s).length=T.length:=by cases d <;> simp [putT]
def putAll (ops:Array Oper):List Oper→List (SV × Obs)→Nat→List SV→List SV
 | _,_,0,T=>T
 | o :: l,x :: tr,j+1,T=>putAll ops l tr j (putT T (dstA ops o) x.1)
 | _,_,_,T=>T

theorem putAll_len (ops:Array Oper):∀ (l:List Oper)(tr:List (SV × Obs))(j:Nat)(T:List SV),(putAll ops l tr j T).length=T.length
 | [],_,0,_|[],_,_+1,_|_ :: _,_,0,_|_ :: _,[],_+1,_=>rfl
 | o :: l,x :: tr,j+1,T=>by
  show (putAll ops l tr j _).length=_
  rw [putAll_len ops l tr j,putT_len]

theorem putAll_out (ops:Array Oper):∀ (l:List Oper)(tr:List (SV × Obs))(j:Nat)(T:List SV)(i:Nat),(∀ (k:Nat)(o:Oper),k < j→l[k]?=some o→dstA ops o≠some i)→(putAll ops l tr j T)[i]?=T[i]?
 | [],_,0,_,_,_|[],_,_+1,_,_,_|_ :: _,_,0,_,_,_|_ :: _,[],_+1,_,_,_=>rfl
 | o :: l,x :: tr,j+1,T,i,h=>by
  show (putAll ops l tr j _)[i]?=_
  rw [putAll_out ops l tr j _ i (fun k o' hk ho=>h (k+1) o' (by omega) (by simpa using ho))]
  have h0:=h 0 o (by omega) rfl
  unfold putT
  cases hd:dstA ops o with
  | none=>rfl
  | some d =>
   simp only
   rw [List.getElem?_set_ne]
   intro hdi
   subst hdi
   exact h0 hd

theorem filterMap_nodup_ne {ops:Array Oper}{l:List Oper}(h:(l.filterMap (dstA ops)).Nodup):∀ {j k:Nat}{x y:Oper}{d:Nat},l[j]?=some x→l[k]?=some y→dstA ops x=some d→dstA ops y=some d→j=k:=by
 induction l with
 | nil=>intro j k x y d hx;simp at hx
 | cons o l ih =>
  intro j k x y d hx hy hdx hdy
  have hmem:∀ {k:Nat}{y:Oper},l[k]?=some y→dstA ops y=some d→d ∈ l.filterMap (dstA ops):=fun hk hd=>(List.mem_filterMap (f:=dstA ops)).2 ⟨_,List.mem_of_getElem? hk,hd⟩
  have htail:(l.filterMap (dstA ops)).Nodup:=by
   cases ho:dstA ops o with
   | none=>rw [List.filterMap_cons_none ho] at h;exact h
   | some e=>rw [List.filterMap_cons_some ho,List.nodup_cons] at h;exact h.2
  have hhead:∀ e,dstA ops o=some e→e ∉ l.filterMap (dstA ops):=by
   intro e ho
   rw [List.filterMap_cons_some ho,List.nodup_cons] at h;exact h.1
  cases j with
  | zero =>
   replace hx:o=x:=by simpa using hx
   subst hx
   cases k with
   | zero=>rfl
   | succ k=>exact absurd (hmem (by simpa using hy) hdy) (hhead d hdx)
  | succ j =>
   cases k with
   | zero =>
    replace hy:o=y:=by simpa using hy
    subst hy
    exact absurd (hmem (by simpa using hx) hdx) (hhead d hdy)
   | succ k=>exact congrArg (·+1) (ih htail (j:=j) (k:=k) (by simpa using hx) (by simpa using hy) hdx hdy)

theorem putAll_in (ops:Array Oper):∀ (l:List Oper)(tr:List (SV × Obs))(j:Nat)(T:List SV)(i k:Nat)(o:Oper)(x:SV × Obs),(l.filterMap (dstA ops)).Nodup→l[k]?=some o→tr[k]?=some x→dstA ops o=some i→k < j→i < T.length→(putAll ops l tr j T)[i]?=some x.1
 | [],_,_,_,_,_,_,_,_,h,_,_,_,_=>by simp at h
 | _ :: _,[],_,_,_,_,_,_,_,_,h,_,_,_=>by simp at h
 | _ :: _,_ :: _,0,_,_,_,_,_,_,_,_,_,h,_=>by omega
 | o' :: l,x' :: tr,j+1,T,i,k,o,x,hn,ho,hx,hd,hk,hi=>by
  show (putAll ops l tr j _)[i]?=_
  cases k with
  | zero =>
   replace ho:o'=o:=by simpa using ho
   replace hx:x'=x:=by simpa using hx
   subst ho;subst hx
   rw [putAll_out ops l tr j _ i (fun k o2 hk2 ho2 hd2=>by
    have:=filterMap_nodup_ne hn (j:=0) (k:=k+1) (x:=o') (y:=o2) (d:=i) rfl (by simpa using ho2) hd hd2
    omega)]
   rw [hd]
   show (T.set i x'.1)[i]?=_
   rw [List.getElem?_set_self hi]
  | succ k =>
   have hn':(l.filterMap (dstA ops)).Nodup:=by
    cases ho2:dstA ops o' with
    | none=>rw [List.filterMap_cons_none ho2] at hn;exact hn
    | some e=>rw [List.filterMap_cons_some ho2,List.nodup_cons] at hn;exact hn.2
   exact putAll_in ops l tr j _ i k o x hn' (by simpa using ho) (by simpa using hx) hd (by omega) (by rw [putT_len];exact hi)

def Yield (E:Env)(ops:Array Oper)(B:Obs)(L:Nat→Ob→Prop)(o:Oper)(T:List SV)(x:SV × Obs):Prop :=
 (∃ j want dj,o.guard=some (j,want)∧(ops[j]?).bind (·.dst)=some dj∧(T.getD dj .dead=.undef∨∃ b,T.getD dj .dead=.bool b∧(b==want)=false)∧x=(.undef,[])) ∨
 ((o.guard=none∨∃ j want dj b,o.guard=some (j,want)∧(ops[j]?).bind (·.dst)=some dj∧T.getD dj .dead=.bool b∧(b==want)=true) ∧
  linOf ops o=none∧opQ E o { T:=T,B:=B } pairK=some ([x.1],x.2)∧(∀ t,o.op=.alloc t→zeroRows E (o.dst.getD 0) 0 (fieldsZ E.P t)=[]) ∧
  (x.2=[]∨(∃ d ob,x.2=[(d,ob)]∧o.dst=some d∧laysOp o=true∧d < lowB)∨∃ ob,x.2=[(HL,ob)]∧(∀ ob',¬ L HL ob')∧Obs.hasH B=true)) ∨
 ((o.guard=none∨∃ j want dj b,o.guard=some (j,want)∧(ops[j]?).bind (·.dst)=some dj∧T.getD dj .dead=.bool b∧(b==want)=true)∧∃ u d e c l,linOf ops o=some d∧convA E o { T:=T,B:=B }=some (.own u d)∧L d (.row e (c :: l))∧x=(.val u (.list (c :: l)),[])) ∨
 ((o.guard=none∨∃ j want dj b,o.guard=some (j,want)∧(ops[j]?).bind (·.dst)=some dj∧T.getD dj .dead=.bool b∧(b==want)=true)∧∃ t d y p s,o.op=.store t (.tmp d) y∧o.dst=none∧T.getD d .dead=.ptr d []∧L d (.box t s)∧(Ob.box t s).putAt E.P t (({ T:=T,B:=B }:St).get E.P t y) []=some p∧x=(.undef,[(d,p)])∧d < lowB)
theorem Yield.more {ops:Array Oper}{B:Obs}{L L':Nat→Ob→Prop}{o:Oper}{T:List SV}{x:SV × Obs}(h:Yield E ops B L o T x)(hL:∀ d ob,L d ob→L' d ob)(hL2:∀ d ob,L' d ob→L d ob):Yield E ops B L' o T x:=by
 rcases h with h|⟨g1,g2,g3,g4,g5⟩|⟨h1,u,d,e,c,l,h2,h3,h4,h5⟩|⟨h1,t,d,y,p,s,h2,h3,h4,h5,h6⟩
 ·exact .inl h
 ·refine .inr (.inl ⟨g1,g2,g3,g4,?_⟩)
  rcases g5 with g5|g5|⟨ob,g5,g6,g7⟩
  ·exact .inl g5
  ·exact .inr (.inl g5)
  ·exact .inr (.inr ⟨ob,g5,fun ob' h=>g6 ob' (hL2 _ _ h),g7⟩)
 ·exact .inr (.inr (.inl ⟨h1,u,d,e,c,l,h2,h3,hL _ _ h4,h5⟩))
 ·exact .inr (.inr (.inr ⟨h1,t,d,y,p,s,h2,h3,h4,hL _ _ h5,h6⟩))
theorem obs_mem {os:Obs}{d:Nat}{ob:Ob}(h:Obs.get0 os d=some ob):(d,ob) ∈ os:=Obs.get0_mem h

theorem stepA_spec (hp:Par E.C){ops:Array Oper}{o:Oper}{T:List SV}{B os:Obs}{K:St→Obs→Option Out}{r:Out}(h:stepA E ops o { T:=T,B:=B } os K=some r) :
  (∃ s l,linOf ops o=none∧opQ E o { T:=T,B:=B } pairK=some ([s],l)∧(∀ t,o.op=.alloc t→zeroRows E (o.dst.getD 0) 0 (fieldsZ E.P t)=[])∧(l=[]∨(∃ d ob,l=[(d,ob)]∧o.dst=some d∧laysOp o=true∧d < lowB)∨∃ ob,l=[(HL,ob)]∧(∀ ob',(HL,ob') ∉ os)∧Obs.hasH B=true)∧K { T:=putT T o.dst s,B:=B } (l++os)=some r) ∨
  (∃ u d e c l,linOf ops o=some d∧convA E o { T:=T,B:=B }=some (.own u d)∧(d,.row e (c :: l)) ∈ os∧K { T:=putT T o.dst (.val u (.list (c :: l))),B:=B } os=some r) ∨
  (∃ t d y p s,o.op=.store t (.tmp d) y∧o.dst=none∧T.getD d .dead=.ptr d []∧(d,.box t s) ∈ os∧(Ob.box t s).putAt E.P t (({ T:=T,B:=B }:St).get E.P t y) []=some p∧d < lowB∧K { T:=T,B:=B } ((d,p) :: os)=some r):=by
 unfold stepA at h
 cases hlin:linOf ops o with
 | some a =>
  rw [hlin] at h
  simp only at h
  split at h
  ·rename_i u d hcv
   obtain ⟨hb,h⟩:=cond_some h
   have hb:d=a:=by simpa using hb
   subst hb
   split at h
   ·rename_i e c l hg
    simp only [put_eq] at h
    exact .inr (.inl ⟨u,d,e,c,l,rfl,hcv,obs_mem hg,h⟩)
   ·cases h
  ·cases h
 | none =>
 rw [hlin] at h
 simp only at h
 cases hc:(isE E o { T:=T,B:=B } || !bareAlloc E o) with
 | true =>
  rw [hc,cond_true] at h
  cases hst:stA E o { T:=T,B:=B } os with
  | none=>rw [hst] at h;cases h
  | some yy =>
   rw [hst] at h
   simp only at h
   unfold stA at hst
   split at hst
   ·rename_i t d y hop
    split at hst
    ·rename_i d' u s hTd hgd
     obtain ⟨hb,hst⟩:=cond_some hst
     simp only [Bool.and_eq_true,beq_iff_eq,Option.isNone_iff_eq_none] at hb
     obtain ⟨⟨⟨rfl,rfl⟩,hdst⟩,hdlo⟩:=hb
     split at hst
     ·rename_i p hp
      injection hst with hst
      subst hst
      exact .inr (.inr ⟨_,_,y,p,s,hop,hdst,hTd,obs_mem hgd,hp,by simpa using hdlo,h⟩)
     ·cases hst
    ·cases hst
   ·cases hst
 | false =>
 rw [hc,cond_false] at h
 refine .inl ?_
 simp only [Bool.or_eq_false_iff,Bool.not_eq_false'] at hc
 rw [opQ_param E hp] at h
 cases hq:opQ E o { T:=T,B:=B } pairK with
 | none=>rw [hq] at h;cases h
 | some y =>
  rw [hq] at h
  simp only [Option.bind_some] at h
  obtain ⟨y1,y2⟩:=y
  have hal:∀ t,o.op=.alloc t→zeroRows E (o.dst.getD 0) 0 (fieldsZ E.P t)=[]:=by
   unfold bareAlloc at hc
   intro t ht
   have:=hc.2
   rw [ht] at this
   simpa using this
  match y1 with
  | []=>cases h
  | _ :: _ :: _=>cases h
  | [s] =>
   simp only [unpair] at h
   match y2 with
   | [] =>
    simp only [put_eq] at h
    exact ⟨s,[],rfl,rfl,hal,.inl rfl,h⟩
   | [(d,ob)] =>
    simp only [put_eq] at h
    cases hdl:d==HL with
    | true =>
     rw [hdl,cond_true] at h
     obtain ⟨hb,h⟩:=cond_some h
     rw [Bool.and_eq_true] at hb
     have hdl:d=HL:=by simpa using hdl
     subst hdl
     refine ⟨s,[(HL,ob)],rfl,rfl,hal,.inr (.inr ⟨ob,rfl,fun ob' hm=>?_,hb.1⟩),h⟩
     have:=List.all_eq_true.1 hb.2 _ hm
     simp at this
    | false =>
     rw [hdl,cond_false] at h
     obtain ⟨hb,h⟩:=cond_some h
     simp only [Bool.and_eq_true,beq_iff_eq] at hb
     exact ⟨s,[(d,ob)],rfl,rfl,hal,.inr (.inl ⟨d,ob,rfl,hb.1.1,hb.1.2,by simpa using hb.2⟩),h⟩
   | _ :: _ :: _=>cases h

def Laid (tr:List (SV × Obs))(os:Obs)(j:Nat)(d:Nat)(ob:Ob):Prop:=(∃ (k:Nat)(y:SV × Obs),k < j∧tr[k]?=some y∧(d,ob) ∈ y.2)∨(d,ob) ∈ os
theorem Laid.cons {tr:List (SV × Obs)}{x:SV × Obs}{os:Obs}{j d:Nat}{ob:Ob}(h:Laid tr (x.2++os) j d ob):Laid (x :: tr) os (j+1) d ob:=by
 rcases h with ⟨k,y,h1,h2,h3⟩|h
 ·exact .inl ⟨k+1,y,by omega,by simpa using h2,h3⟩
 ·rcases List.mem_append.1 h with h|h
  ·exact .inl ⟨0,x,by omega,rfl,h⟩
  ·exact .inr h
theorem Laid.back {tr:List (SV × Obs)}{x:SV × Obs}{os:Obs}{j d:Nat}{ob:Ob}(h:Laid (x :: tr) os (j+1) d ob):Laid tr (x.2++os) j d ob:=by
 rcases h with ⟨k,y,h1,h2,h3⟩|h
 ·cases k with
  | zero =>
   replace h2:x=y:=by simpa using h2
   subst h2
   exact .inr (List.mem_append_left _ h3)
  | succ k=>exact .inl ⟨k,y,by omega,by simpa using h2,h3⟩
 ·exact .inr (List.mem_append_right _ h)
theorem execA_trace (hp:Par E.C){ops:Array Oper}{B:Obs}{K:St→Obs→Option Out}{r:Out}:∀ (l:List Oper)(T:List SV)(os:Obs),execA E ops (l.filter fun o=>!skipOp ops o) K { T:=T,B:=B } os=some r →
  ∃ tr:List (SV × Obs),tr.length=l.length∧(∀ (j:Nat)(o:Oper)(x:SV × Obs),l[j]?=some o→tr[j]?=some x→(skipOp ops o=true→x.2=[])∧(skipOp ops o=false→Yield E ops B (Laid tr os j) o (putAll ops l tr j T) x)) ∧
   K { T:=putAll ops l tr l.length T,B:=B } (((tr.map (·.2)).reverse).flatten++os)=some r
 | [],T,os,h=>⟨[],rfl,fun j o x hj=>by simp at hj,h⟩
 | o :: l,T,os,h=>by
  have main:∀ (x:SV × Obs),((skipOp ops o=true→x.2=[])∧(skipOp ops o=false→Yield E ops B (fun d ob=>(d,ob) ∈ os) o T x))→execA E ops (l.filter fun o=>!skipOp ops o) K { T:=putT T (dstA ops o) x.1,B:=B } (x.2++os)=some r →
    ∃ tr:List (SV × Obs),tr.length=(o :: l).length∧(∀ (j:Nat)(o2:Oper)(x:SV × Obs),(o :: l)[j]?=some o2→tr[j]?=some x→(skipOp ops o2=true→x.2=[])∧(skipOp ops o2=false→Yield E ops B (Laid tr os j) o2 (putAll ops (o :: l) tr j T) x)) ∧
     K { T:=putAll ops (o :: l) tr (o :: l).length T,B:=B } (((tr.map (·.2)).reverse).flatten++os)=some r:=by
   intro x hx h
   obtain ⟨tr,t1,t2,t3⟩:=execA_trace hp l _ _ h
   refine ⟨x :: tr,by simp [t1],fun j o2 y hj hy=>?_,?_⟩
   ·cases j with
    | zero =>
     replace hj:o=o2:=by simpa using hj
     replace hy:x=y:=by simpa using hy
     subst hj;subst hy
     exact ⟨hx.1,fun h=>(hx.2 h).more (fun d ob h=>.inr h) fun d ob h=>by
      rcases h with ⟨k,y,h1,_⟩|h
      ·omega
      ·exact h⟩
    | succ j =>
     obtain ⟨u1,u2⟩:=t2 j o2 y (by simpa using hj) (by simpa using hy)
     exact ⟨u1,fun h=>(u2 h).more (fun d ob h=>h.cons) fun d ob h=>h.back⟩
   ·have:((x :: tr).map (·.2)).reverse.flatten++os=((tr.map (·.2)).reverse).flatten++(x.2++os):=by simp
    rw [this]
    exact t3
  cases hlate:skipOp ops o with
  | true =>
   rw [List.filter_cons_of_neg (by simp [hlate])] at h
   refine main (.undef,[]) ⟨fun _=>rfl,fun h=>(by rw [hlate] at h;cases h)⟩ ?_
   have:dstA ops o=none:=by unfold dstA;rw [hlate];rfl
   rw [this]
   exact h
  | false =>
  rw [List.filter_cons_of_pos (by simp [hlate])] at h
  have hdst:dstA ops o=o.dst:=by unfold dstA;rw [hlate];rfl
  rw [hdst] at main
  replace main:=fun (x:SV × Obs)(h:Yield E ops B (fun d ob=>(d,ob) ∈ os) o T x)=>main x ⟨fun h=>(by rw [hlate] at h;cases h),fun _=>h⟩
  unfold execA at h
  cases hg:o.guard with
  | none =>
   rw [hg] at h
   simp only at h
   rcases stepA_spec hp h with ⟨s,l',h0,h1,h2,h3,h4⟩|⟨u,d,e,c,l2,h1,h2,h3,h4⟩|⟨t,d,y,p,s,h1,h2,h3,h4,h5,hdlo,h6⟩
   ·exact main (s,l') (.inr (.inl ⟨.inl hg,h0,h1,h2,h3⟩)) h4
   ·exact main (.val u (.list (c :: l2)),[]) (.inr (.inr (.inl ⟨.inl hg,u,d,e,c,l2,h1,h2,h3,rfl⟩))) h4
   ·exact main (.undef,[(d,p)]) (.inr (.inr (.inr ⟨.inl hg,t,d,y,p,s,h1,h2,h3,h4,h5,rfl,hdlo⟩))) (by rw [h2];exact h6)
  | some gw =>
   obtain ⟨j,want⟩:=gw
   rw [hg] at h
   simp only at h
   cases hd:(ops[j]?).bind (·.dst) with
   | none=>rw [hd] at h;cases h
   | some dj =>
    rw [hd] at h
    simp only at h
    cases hs:T.getD dj .dead with
    | bool b =>
     rw [hs] at h
     simp only at h
     have e1:({ T:=T,B:=B }:St).setT dj (.bool b)={ T:=T,B:=B }:=by
      show ({ T:=T.set dj (.bool b),B:=B }:St)=_
      rw [set_same hs (by simp)]
     cases hb:b==want with
     | true =>
      have hbw:want=b:=(beq_iff_eq.1 hb).symm
      rw [hb,cond_true,hbw,e1] at h
      rcases stepA_spec hp h with ⟨s,l',h0,h1,h2,h3,h4⟩|⟨u,d,e,c,l2,h1,h2,h3,h4⟩|⟨t,d,y,p,s,h1,h2,h3,h4,h5,hdlo,h6⟩
      ·exact main (s,l') (.inr (.inl ⟨.inr ⟨j,want,dj,b,hg,hd,hs,hb⟩,h0,h1,h2,h3⟩)) h4
      ·exact main (.val u (.list (c :: l2)),[]) (.inr (.inr (.inl ⟨.inr ⟨j,want,dj,b,hg,hd,hs,hb⟩,u,d,e,c,l2,h1,h2,h3,rfl⟩))) h4
      ·exact main (.undef,[(d,p)]) (.inr (.inr (.inr ⟨.inr ⟨j,want,dj,b,hg,hd,hs,hb⟩,t,d,y,p,s,h1,h2,h3,h4,h5,rfl,hdlo⟩))) (by rw [h2];exact h6)
     | false =>
      have hbw:(!want)=b:=by cases b <;> cases want <;> first|rfl|(simp at hb)
      rw [hb,cond_false,hbw,e1,put_eq] at h
      exact main (.undef,[]) (.inl ⟨j,want,dj,hg,hd,.inr ⟨b,hs,hb⟩,rfl⟩) h
    | undef =>
     rw [hs] at h
     simp only [put_eq] at h
     exact main (.undef,[]) (.inl ⟨j,want,dj,hg,hd,.inl hs,rfl⟩) h
    | _=>rw [hs] at h;cases h

end
end Go.X
