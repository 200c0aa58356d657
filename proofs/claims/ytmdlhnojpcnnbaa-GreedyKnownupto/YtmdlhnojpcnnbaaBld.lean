/- What calls of strings.Builder's copyCheck and String come to. -/
import Derived.Test.YtmdlhnojpcnnbaaBldW
set_option linter.unusedVariables false
set_option maxRecDepth 100000
set_option linter.unusedSimpArgs false
namespace Go.Proofs.Ytmdlhnojpcnnbaa
open Go Go.X Go.RowKit

theorem Bld.laidOut:laidOutB Try.prog=true:=by kernel_rfl
theorem Bld.noNums:noNum Try.prog=true:=by kernel_rfl

theorem Bld.kp0 {Mo:Nat→Prop} {β:Beta}{args:List SV}{B0:Obs}{vs:List Value}{w:World}(h:Rel Try.prog Mo β args B0 vs w):Kp w (footOf β B0) β B0 w:=Kp.start h

theorem Bld.inv {w:World}{M:Nat→Prop} {β:Beta}{B:Obs}{x y:SV}{cs:List Value}{v:Value}(hp:Pack Try.prog 97 v cs)(hl:cs.length=Try.prog.cellsOf 97)
  (h:RS Try.prog w M β B (.agg 97 [x,y]) v):∃ a c,cs=[a,c]∧RS Try.prog w M β B x a∧RS Try.prog w M β B y c:=by
 have hag:isAggT Try.prog 97=true:=by kernel_rfl
 unfold Pack at hp
 rw [if_pos hag] at hp
 generalize hs:SV.agg 97 [x,y]=s at h
 cases h with
 | @agg t fs l cs' vs hu hlt hll hcl h1 h2 h3 =>
  injection hs with e1 e2
  subst e1;subst e2
  injection hp with hp
  have hcs:cs'=cs:=by simpa using hp
  subst hcs
  rw [Try.underlying97] at hu
  injection hu with hu;injection hu with hu;subst hu
  have n0:Try.prog.cellsOf 95=1:=by kernel_rfl
  have n1:Try.prog.cellsOf 36=1:=by kernel_rfl
  have m0:isAggT Try.prog 95=false:=by kernel_rfl
  have m1:isAggT Try.prog 36=false:=by kernel_rfl
  have hc2:Try.prog.cellsOf 97=2:=by kernel_rfl
  rw [hc2] at hl
  obtain ⟨a,c,rfl⟩:∃ a c,cs'=[a,c]:=by
   match cs',hl with
   | [a,c],_=>exact ⟨a,c,rfl⟩
  have p0:Pack Try.prog 95 (vs 0) (List.take (Try.prog.cellsOf 95) (List.drop 0 [a,c])):=(h2 0 _ x rfl rfl).2
  have p1:Pack Try.prog 36 (vs 1) (List.take (Try.prog.cellsOf 36) (List.drop 1 [a,c])):=(h2 1 _ y rfl rfl).2
  rw [n0] at p0;rw [n1] at p1
  unfold Pack at p0 p1
  rw [if_neg (by rw [m0];decide)] at p0
  rw [if_neg (by rw [m1];decide)] at p1
  simp only [List.drop_zero,List.take_succ_cons,List.take_zero,List.drop_succ_cons,List.cons.injEq,and_true] at p0 p1
  subst p0;subst p1
  exact ⟨_,_,rfl,h3 0 x rfl,h3 1 y rfl⟩
 | _=>cases hs

theorem Bld.ptr0 {w:World}{M:Nat→Prop} {β:Beta}{B:Obs}{d:Nat}{v:Value}{t:TypeId}{s:SV}(hob:Obs.get B d=some (.box t s))(h:RS Try.prog w M β B (.ptr d []) v):∃ b c,v=.pointer (some ⟨b,0,none⟩)∧β d=some (b,c):=by
 generalize hs:SV.ptr d []=x at h
 cases h with
 | @ptr d' q b c off ob h1 h2 h3 =>
  injection hs with e1 e2
  subst e1;subst e2
  rw [hob] at h1;injection h1 with h1;subst h1
  have:off=0:=by simpa [offO,offT] using h3.symm
  subst this
  exact ⟨b,c,rfl,h2⟩
 | _=>cases hs

theorem Bld.noSlots {Mo:Nat→Prop} {β:Beta}{T:List SV}{B:Obs}{vs:List Value}{w:World}(h:Rel Try.prog Mo β T B vs w):Rel Try.prog Mo β [] B [] w :=
 ⟨rfl,fun i s v hi=>by simp at hi,h.ob,h.inj,h.lt,h.out,h.mo,h.gl⟩

theorem Bld.used:SndO Try.prog 99 (fun x:List PV=>([.ptr 2000000 []],[(2000000,.box 97 (.agg 97 [.ptr 2000000 [],.own 36 2000001])),(2000001,.row 5 x)]))
  (fun y:List PV=>([],[(2000000,.box 97 (.agg 97 [.ptr 2000000 [],.own 36 2000001])),(2000001,.row 5 y)])) (fun x ret=>ret x):=by
 refine ⟨fun x r h=>callOk_of Bld.noNums Try.func99 (c:=Try.f99.body.getD .skip) (by kernel_rfl) fun Mo β vs w hR=>?_,fun x K=>rfl⟩
 injection h with h;subst h
 match vs,hR.len with
 | [v],_ =>
  obtain ⟨b,c,rfl,hβ⟩:=Bld.ptr0 rfl (hR.slot 0 _ v rfl rfl)
  obtain ⟨b',c',cs,v',fr,h1,h2,h3,h4,h5,h6,h7,h8,h9⟩:=hR.ob 2000000 _ rfl
  rw [h1] at hβ;injection hβ with hβ;injection hβ with hb hc;subst hb;subst hc
  obtain ⟨a,c2,rfl,ha,hy⟩:=Bld.inv h6 h4 h7
  obtain ⟨b2,c3,rfl,hβ2⟩:=Bld.ptr0 rfl ha
  rw [h1] at hβ2;injection hβ2 with hβ2;injection hβ2 with hb hc;subst hb;subst hc
  refine (Bld.cc_used b' w (by unfold World.cell?;rw [h2];rfl)).mono ?_
  rintro e w' ⟨rfl,rfl⟩
  exact ⟨[],β,rfl,Bld.noSlots hR,Bld.kp0 hR⟩

theorem Bld.fresh:SndO Try.prog 99 (fun x:PV × List PV=>([.ptr 2000000 []],[(2000000,.box 97 (.agg 97 [.val 95 x.1,.own 36 2000001])),(2000001,.row 5 x.2)]))
  (fun y:List PV=>([],[(2000000,.box 97 (.agg 97 [.ptr 2000000 [],.own 36 2000001])),(2000001,.row 5 y)])) (fun x ret=>bif x.1.isNil then ret x.2 else none):=by
 refine ⟨fun x r h=>callOk_of Bld.noNums Try.func99 (c:=Try.f99.body.getD .skip) (by kernel_rfl) fun Mo β vs w hR=>?_,fun x K=>by cases x.1.isNil <;> rfl⟩
 obtain ⟨p,l⟩:=x
 simp only at h hR
 cases hp:p.isNil with
 | false=>rw [hp] at h;cases h
 | true =>
  rw [hp,cond_true] at h
  injection h with h;subst h
  have hpn:p=.nil:=by cases p <;> first|rfl|cases hp
  subst hpn
  match vs,hR.len with
  | [v],_ =>
   obtain ⟨b,c,rfl,hβ⟩:=Bld.ptr0 rfl (hR.slot 0 _ v rfl rfl)
   obtain ⟨b',c',cs,v',fr,h1,h2,h3,h4,h5,h6,h7,h8,h9⟩:=hR.ob 2000000 _ rfl
   have hβ':=hβ
   rw [h1] at hβ';injection hβ' with hβ';injection hβ' with hb hc;subst hb;subst hc
   obtain ⟨a,c2,rfl,ha,hy⟩:=Bld.inv h6 h4 h7
   have hav:a=.pointer none:=by
    generalize hs:SV.val 95 .nil=s at ha
    cases ha with
    | @val t p v cs hpk hrd =>
     injection hs with e1 e2;subst e1;subst e2
     unfold Pack at hpk
     rw [if_neg (by rw [show isAggT Try.prog 95=false by kernel_rfl];decide)] at hpk
     subst hpk
     generalize hq:PV.nil=q at hrd
     generalize hcs:[a]=cs at hrd
     cases hrd with
     | nilPtr _=>injection hcs
     | nilIface hu=>rw [Try.underlying95] at hu;cases hu
     | _=>cases hq
    | _=>cases hs
   subst hav
   have hfr:∀ x,x < 2→fr.1=fr.2∨2≤fr.1:=h3
   refine (Bld.cc_fresh b' w (by unfold World.cell?;rw [h2];rfl) (by unfold World.shape?;rw [h2];rfl) (by
    unfold World.frozen?
    rw [h2]
    have:=hfr 0 (by omega)
    simp only [Bool.and_eq_false_iff,decide_eq_false_iff_not]
    omega)).mono ?_
   rintro e w' ⟨rfl,rfl⟩
   let o:Oper:={ dst:=none,op:=.store 95 (.tmp 0) (.tmp 1),type:=0,pos:= "",after:=#[],guard:=none }
   let E:Env:={ P:=Try.prog }
   let B0:Obs:=[(2000000,.box 97 (.agg 97 [.val 95 .nil,.own 36 2000001])),(2000001,.row 5 l)]
   let B1:Obs:=[(2000000,.box 97 (.agg 97 [.ptr 2000000 [],.own 36 2000001])),(2000001,.row 5 l)]
   let st:St:=⟨[.ptr 2000000 [.fld 0],.ptr 2000000 []],B0⟩
   let P0:Value:=.pointer (some ⟨b',0,none⟩)
   let a:Act:={ tmps:=#[P0,P0],defers:=[] }
   have hI:Inv E.P w (footOf β B0) Mo st a w:=by
    refine ⟨rfl,β,⟨rfl,fun i s v hi hv=>?_,hR.ob,hR.inj,hR.lt,hR.out,hR.mo,hR.gl⟩,Bld.kp0 hR⟩
    match i,hi,hv with
    | 0,hi,hv =>
     injection hi with hi;injection hv with hv;subst hi;subst hv
     exact .ptr (off:=0) rfl h1 (by kernel_rfl)
    | 1,hi,hv =>
     injection hi with hi;injection hv with hv;subst hi;subst hv
     exact .ptr (off:=0) rfl h1 rfl
   have hx:opE0 E o st (fun st=>some ([],st.B))=some ([],B1):=by kernel_rfl
   obtain ⟨st',hK,hwp⟩:=e_store (E:=E) Bld.laidOut hI rfl hx
   injection hK with hK;injection hK with _ hB
   have hrun:(execOp a.eval o).run E.P w=.ok .skip (w.setCell ⟨b',0,none⟩ P0):=by
    have:=run_storeVar (P:=Try.prog) (t:=95) (v:=P0) (xs:=[P0]) (o:=0) Try.underlying95 (pack1 (by kernel_rfl)) (by intro c hc;rw [List.mem_singleton.1 hc];rfl) (by kernel_rfl) h2 (by simp) h3
    unfold execOp
    show (Instr.storeAt _ _ _ >>= fun _=>pure Next.skip:Sem Next).run E.P w=_
    simp only [Instr.storeAt,Instr.sureAddr]
    rw [Sem.run_bind]
    show (((do storeVar 95 (←pure (⟨b',0,none⟩:Addr)) P0:Sem Unit)).run Try.prog w).andThen _=_
    rw [Sem.run_bind,Sem.run_pure,Result.andThen_ok,this]
    rfl
   have h8':=hwp (fun a' w''=>Inv E.P w (footOf β B0) Mo st' a' w'') (fun _ _ _=>True) (fun _ _ h=>h)
   unfold Oper.wp at h8'
   rw [hrun,Oper.upon_skip] at h8'
   obtain ⟨_,β2,hR2,hk2⟩:=h8'
   rw [hB] at hR2 hk2
   exact ⟨[],β2,rfl,Bld.noSlots hR2,hk2⟩

theorem Bld.told {Mo:Nat→Prop} {β:Beta}{x:SV}{l:List PV}{v:Value}{w w':World}{s:ByteArray}
  (hR:Rel Try.prog Mo β [.ptr 2000000 []] [(2000000,.box 97 (.agg 97 [x,.own 36 2000001])),(2000001,.row 5 l)] [v] w)
  (hx1:x.kill 2000001=x)(hx2:x.drop 2000001 (.list [])=x)(hs:chars s=l.map PV.num)(hsm:s.size≤maxLen)(hsz:w.heap.size≤w'.heap.size)
  (hold:∀ y,y < w.heap.size→(∀ c,β 2000001≠some (y,c))→w'.heap[y]?=w.heap[y]?)(hos:w'.os=w.os)(hout:w'.output=w.output) :
  EndsIn Try.prog w Mo β [(2000000,.box 97 (.agg 97 [x,.own 36 2000001])),(2000001,.row 5 l)]
   ([.str (l.map PV.num)],[(2000000,.box 97 (.agg 97 [x,.dead]))]) (.returned (.string s)) w':=by
 have hu8:5 < Try.prog.types.size:=of_decide_eq_true (by kernel_rfl)
 have hR1:=hR.grow (d:=2000001) (o:=.row 5 l) (by unfold HL;omega) rfl hsz hold (x:=none) (fun b c h=>by cases h) (.row 5 []) ⟨hu8,.inl ⟨at_self _ _ _,rfl⟩⟩
 have hR2:=Rel.retire (st:=⟨SV.kills 2000001 [.ptr 2000000 []],Obs.ins 2000001 (.row 5 []) (Obs.del 2000001 (Obs.kill 2000001 [(2000000,.box 97 (.agg 97 [x,.own 36 2000001])),(2000001,.row 5 l)]))⟩) hR1 2000001
 have hB:(St.retire ⟨SV.kills 2000001 [.ptr 2000000 []],Obs.ins 2000001 (.row 5 []) (Obs.del 2000001 (Obs.kill 2000001 [(2000000,.box 97 (.agg 97 [x,.own 36 2000001])),(2000001,.row 5 l)]))⟩ 2000001).B =
   [(2000000,.box 97 (.agg 97 [(x.kill 2000001).drop 2000001 (.list []),.dead]))]:=rfl
 rw [hB,hx1,hx2] at hR2
 have get1:∀ n o,Obs.get [(2000000,Ob.box 97 (.agg 97 [x,.dead]))] n=some o→n=2000000∧o=.box 97 (.agg 97 [x,.dead]):=by
  intro n o h
  unfold Obs.get at h
  cases hl:n.blt HL with
  | true =>
   rw [hl,cond_true] at h
   simp only [Obs.get0,Bool.cond_eq_ite,beq_iff_eq] at h
   by_cases hn:2000000=n
   ·rw [if_pos hn] at h;injection h with h;exact ⟨hn.symm,h.symm⟩
   ·rw [if_neg hn] at h;cases h
  | false =>
   rw [hl,cond_false] at h
   have h0:Obs.get0 [(2000000,Ob.box 97 (.agg 97 [x,.dead]))] HL=none:=rfl
   rw [h0] at h
   unfold hiOf at h
   cases h1:n==HL with
   | true=>rw [h1] at h;cases h
   | false =>
    rw [h1,cond_false] at h
    cases h2:n.blt HB with
    | true=>rw [h2] at h;cases h
    | false=>rw [h2] at h;cases h
 have hβ:∀ n,n=2000000→β.at 2000001 none n=β n:=by
  intro n hn
  subst hn
  unfold Beta.at
  rw [if_neg (by decide)]
 refine ⟨[.string s],β.at 2000001 none,rfl,⟨rfl,fun i s' v' hi hv=>?_,hR2.ob,hR2.inj,hR2.lt,hR2.out,hR2.mo,hR2.gl⟩,⟨hsz,fun b hb hf=>hold b hb fun c hc=>hf ⟨2000001,_,c,rfl,hc⟩,fun b hb=>.inl ?_,hos,hout,fun n t b o hn ho=>?_,(Bld.kp0 hR).low,fun i y hy=>absurd ((Bld.kp0 hR).hpk i y hy).1 (fun h=>by cases h)⟩⟩
 ·match i,hi,hv with
  | 0,hi,hv =>
   injection hi with hi;injection hv with hv;subst hi;subst hv
   rw [←hs]
   exact .str hsm
 ·obtain ⟨d,o,c,h1,h2⟩:=hb
  obtain ⟨rfl,rfl⟩:=get1 d o h1
  rw [hβ _ rfl] at h2
  exact ⟨2000000,_,c,rfl,h2⟩
 ·obtain ⟨rfl,rfl⟩:=get1 n o ho
  rw [hβ _ rfl]
  unfold footOf at hn
  simp only at hn
  rw [if_neg (by decide)] at hn
  rw [show Obs.get [(2000000,Ob.box 97 (.agg 97 [x,.own 36 2000001])),(2000001,Ob.row 5 l)] 2000000=some (.box 97 (.agg 97 [x,.own 36 2000001])) from rfl] at hn
  cases hb:β 2000000 with
  | none=>rw [hb] at hn;cases hn
  | some b' =>
   rw [hb] at hn
   simp only [Option.some.injEq,Prod.mk.injEq] at hn
   obtain ⟨rfl,rfl⟩:=hn
   exact ⟨⟨_,rfl⟩,rfl⟩

theorem Bld.bytes {l:List PV}(h:∀ p ∈ l,∃ n,p=PV.int n∧0≤n∧n < 256):∃ bs:List UInt8,bs.length=l.length∧chars ⟨bs.toArray⟩=l.map PV.num∧∀ (j:Nat)(x:UInt8),bs[j]?=some x→l[j]?=some (.int x.toNat):=by
 induction l with
 | nil=>exact ⟨[],rfl,rfl,fun j x h=>by simp at h⟩
 | cons p l ih =>
  obtain ⟨bs,h1,h2,h3⟩:=ih fun q hq=>h q (by simp [hq])
  obtain ⟨n,rfl,hn⟩:=h p (by simp)
  have e:((UInt8.ofNat n.toNat).toNat:Int)=n:=by rw [UInt8.toNat_ofNat'];omega
  refine ⟨UInt8.ofNat n.toNat :: bs,by simp [h1],?_,fun j x hj=>?_⟩
  ·unfold chars at h2 ⊢
   simp only [List.map_cons,PV.num,e]
   rw [show bs.map (fun b=>(b.toNat:Int))=l.map PV.num from h2]
  ·cases j with
   | zero=>simp only [List.getElem?_cons_zero,Option.some.injEq] at hj ⊢;rw [←hj,e]
   | succ j=>simpa using h3 j x (by simpa using hj)

set_option maxHeartbeats 2000000 in
theorem Bld.calls {Mo:Nat→Prop} {β:Beta}{x:SV}{l:List PV}{vs:List Value}{w:World}
  (hR:Rel Try.prog Mo β [.ptr 2000000 []] [(2000000,.box 97 (.agg 97 [x,.own 36 2000001])),(2000001,.row 5 l)] vs w)
  (hx1:x.kill 2000001=x)(hx2:x.drop 2000001 (.list [])=x) :
  Calls Try.prog 55 vs.toArray w (EndsIn Try.prog w Mo β [(2000000,.box 97 (.agg 97 [x,.own 36 2000001])),(2000001,.row 5 l)]
   ([.str (l.map PV.num)],[(2000000,.box 97 (.agg 97 [x,.dead]))])):=by
 match vs,hR.len with
 | [v],_ =>
  obtain ⟨b,c,rfl,hβ⟩:=Bld.ptr0 rfl (hR.slot 0 _ v rfl rfl)
  obtain ⟨b',c',cs,v',fr,h1,h2,h3,h4,h5,h6,h7,h8,h9⟩:=hR.ob 2000000 _ rfl
  rw [h1] at hβ;injection hβ with hβ;injection hβ with hb hc;subst hb;subst hc
  obtain ⟨a,c2,rfl,ha,hy⟩:=Bld.inv h6 h4 h7
  have hce:Try.prog.cellsOf 5=1:=by kernel_rfl
  have drew:∀ (w:World),w.drew.heap=w.heap∧w.drew.os=w.os∧w.drew.output=w.output:=fun w=>⟨rfl,rfl,rfl⟩
  generalize hs:SV.own 36 2000001=sy at hy
  cases hy with
  | @own t d e l' g cc k1 k2 k3 k4 =>
   injection hs with e1 e2;subst e1;subst e2
   replace k2:some (Ob.row 5 l)=some (.row e l'):=k2
   injection k2 with k2;injection k2 with e1 e2;subst e1;subst e2
   obtain ⟨hez,hRO⟩:=hR.ob 2000001 _ rfl
   rcases hRO with ⟨g1,_⟩|⟨g',cc',cur,fg,g1,g2,g3,g4,g5,g6,g7,g8⟩
   ·rw [g1] at k3;cases k3
   ·rw [g1] at k3;injection k3 with k3;injection k3 with e1 e2;subst e1;subst e2
    rw [hce,Nat.mul_one] at g6
    have hcell:∀ (i:Nat)(p:PV),l[i]?=some p→∃ n:Int,p=PV.int n∧cur[i]?=some (Value.int .u8 n)∧0≤n∧n < 256:=by
     intro i p hp
     obtain ⟨n,rfl,hn,hn2⟩:=byte_cell Try.underlying5 (g8 i p hp)
     rw [hce,Nat.mul_one] at hn
     refine ⟨n,rfl,?_,hn2⟩
     have:=congrArg (·[0]?) hn
     simpa [List.getElem?_take,List.getElem?_drop] using this
    obtain ⟨bs,b1,b2,b3⟩:=Bld.bytes (l:=l) fun p hp=>by
     obtain ⟨i,hi⟩:=List.getElem?_of_mem hp
     obtain ⟨n,e,_,hn⟩:=hcell i p hi
     exact ⟨n,e,hn⟩
    have keep:∀ y,(∀ c,β 2000001≠some (y,c))→y≠g':=fun y h e=>h cc' (by rw [e];exact g1)
    by_cases hl:bs=[]
    ·have hl0:l=[]:=by rw [hl] at b1;exact List.length_eq_zero_iff.1 b1.symm
     subst hl0
     by_cases hc0:cc'=0
     ·subst hc0
      refine (Bld.str_noroom b' g' a fr fg cur.toArray w h2 g2).mono ?_
      rintro e w' ⟨rfl,q1,q2,q3⟩
      exact Bld.told hR hx1 hx2 rfl (Nat.zero_le _) (by rw [q1];show w.heap.size≤(w.heap.push _).size;rw [Array.size_push];omega) (fun y hy _=>by rw [q1];exact Lib.alloc_old w _ y hy) q2 q3
     ·refine (Bld.str_room b' g' cc' a fr w hc0 h2).mono ?_
      rintro e w' ⟨rfl,rfl⟩
      exact Bld.told hR hx1 hx2 rfl (Nat.zero_le _) (Nat.le_refl _) (fun _ _ _=>rfl) rfl rfl
    ·rw [←b1] at h2 g4
     refine (Bld.str_some b' g' cc' a fr fg cur.toArray bs hl w h2 g2 g4 g5 (by simpa using g6) (fun j x hj=>?_)).mono ?_
     ·obtain ⟨n,e,e2,_⟩:=hcell j _ (b3 j x hj)
      injection e with e;subst e
      have:(⟨g',0,none⟩:Addr).add j=⟨g',j,none⟩:=by unfold Addr.add;split <;> simp_all
      rw [this]
      unfold World.cell?
      rw [(drew w).1,g2]
      simpa using e2
     ·rintro e w' ⟨rfl,rfl⟩
      have hfz:∀ y,y≠g'→(w.drew.freeze ⟨g',0,none⟩ bs.length).heap[y]?=w.heap[y]?:=by
       intro y hy
       unfold World.freeze
       split
       ·rfl
       ·simp only [Array.getElem?_modify]
        rw [if_neg (Ne.symm hy)];rfl
      refine Bld.told hR hx1 hx2 b2 ?_ ?_ (fun y _ hy=>hfz y (keep y hy)) ?_ ?_
      ·show bs.toArray.size≤maxLen
       rw [List.size_toArray];omega
      ·unfold World.freeze;split
       ·exact Nat.le_refl _
       ·simp [(drew w).1]
      ·unfold World.freeze;split <;> rfl
      ·unfold World.freeze;split <;> rfl
  | @ownNil t d e k1 k2 k3 =>
   injection hs with e1 e2;subst e1;subst e2
   replace k2:some (Ob.row 5 l)=some (.row e []):=k2
   injection k2 with k2;injection k2 with e1 e2;subst e1;subst e2
   refine (Bld.str_nil b' a fr w h2).mono ?_
   rintro e w' ⟨rfl,rfl⟩
   exact Bld.told hR hx1 hx2 rfl (Nat.zero_le _) (Nat.le_refl _) (fun _ _ _=>rfl) rfl rfl
  | _=>cases hs

theorem Bld.strUsed:SndO Try.prog 55 (fun x:List PV=>([.ptr 2000000 []],[(2000000,.box 97 (.agg 97 [.ptr 2000000 [],.own 36 2000001])),(2000001,.row 5 x)]))
  (fun y:List Int=>([.str y],[(2000000,.box 97 (.agg 97 [.ptr 2000000 [],.dead]))])) (fun x ret=>ret (x.map PV.num)):=by
 refine ⟨fun x r h=>callOk_of Bld.noNums Try.func55 (c:=Try.f55.body.getD .skip) (by kernel_rfl) fun Mo β vs w hR=>?_,fun x K=>rfl⟩
 injection h with h;subst h
 exact Bld.calls hR rfl rfl
end Go.Proofs.Ytmdlhnojpcnnbaa
