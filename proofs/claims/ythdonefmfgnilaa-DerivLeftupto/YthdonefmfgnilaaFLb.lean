/- Functions of the program as Lean functions, each tied to the program by the kernel: catchpolelaw16.DerivLeft -/
import Derived.Test.YthdonefmfgnilaaFL
set_option linter.unusedVariables false
set_option maxRecDepth 100000
namespace Go.Proofs.Ythdonefmfgnilaa
open Go Go.X
/- catchpole/catchpolelaw16.DerivLeft -/
noncomputable def f7_I:PV × PV × PV→List SV × Obs:=fun x=>([.val 27 x.1,.val 28 x.2.1,.val 28 x.2.2],[])
noncomputable def f7_D:List SV→Obs→Option (PV × PV × PV)
 | [.val 27 p1,.val 28 p2,.val 28 p3],[]=>some (p1,p2,p3)
 | _,_=>none
noncomputable def f7_O:Bool→Out:=(fun y=>([.bool y],[]))
noncomputable def f7_un:Out→Option (Bool)
 | ([.bool y0],[])=>some y0
 | _=>none
theorem f7_un_ok (o:Out)(y:Bool)(h:f7_un o=some y):o=f7_O y:=by
 unfold f7_un at h
 split at h
 ·injection h with h;subst h;rfl
 ·cases h
noncomputable def f7_msk:Nat→Option (List Nat):=fun key=> none
noncomputable def f7_C (c14:(Bool→R)→R)(c15:PV→Int→(Bool→R)→R)(c16:PV→(Int→R)→R)(c17:PV→PV→(PV→Int→R)→R)(c26:PV→(PV→R)→R)(c28:PV→(Bool→R)→R)(c32:PV→(Bool→R)→R)(c34:PV→PV→(Bool→R)→R):Oracle:=orc 14 f14_D f14_O (fun x ret=>c14 (fun y0=>ret y0)) <| orc 15 f15_D f15_O (fun x ret=>c15 x.1 x.2 (fun y0=>ret y0)) <| orc 16 f16_D f16_O (fun x ret=>c16 x (fun y0=>ret y0)) <| orc 17 f17_D f17_O (fun x ret=>c17 x.1 x.2 (fun y0 y1=>ret (y0,y1))) <| orc 26 f26_D f26_O (fun x ret=>c26 x (fun y0=>ret y0)) <| orc 28 f28_D f28_O (fun x ret=>c28 x (fun y0=>ret y0)) <| orc 32 f32_D f32_O (fun x ret=>c32 x (fun y0=>ret y0)) <| orc 34 f34_D f34_O (fun x ret=>c34 x.1 x.2 (fun y0=>ret y0)) <| orc0
noncomputable def f7_E (k:Nat)(c14:(Bool→R)→R)(c15:PV→Int→(Bool→R)→R)(c16:PV→(Int→R)→R)(c17:PV→PV→(PV→Int→R)→R)(c26:PV→(PV→R)→R)(c28:PV→(Bool→R)→R)(c32:PV→(Bool→R)→R)(c34:PV→PV→(Bool→R)→R):Env:={ P:=Try.prog,nilOwn:=fun d=>d==44,fldOwn:=fun d i=>false,ownPar:=ownPars,ownRet:=false,hpD:=fun d=>false,hpF:=hpFs,hpNew:=false,mask:=f7_msk,fuel:=k,C:=f7_C c14 c15 c16 c17 c26 c28 c32 c34 }
noncomputable def f7_code:Code:=Try.f7.body.getD .skip
noncomputable def f7_e (c14:(Bool→R)→R)(c15:PV→Int→(Bool→R)→R)(c16:PV→(Int→R)→R)(c17:PV→PV→(PV→Int→R)→R)(c26:PV→(PV→R)→R)(c28:PV→(Bool→R)→R)(c32:PV→(Bool→R)→R)(c34:PV→PV→(Bool→R)→R)(ret0:Bool→R)(p1:PV)(p2:PV)(p3:PV):R :=
 c14 fun b4 =>
 bif (!b4) then
 ret0 false
 else c15 p1 60 fun b5 =>
 bif (b5==false) then
 c16 p1 fun n6 =>
 bif ((decide ((60:Int) < n6))==false) then
 bif ((decide ((5:Int) < (List.length (PV.els p2):Int)))==false) then
 bif ((decide ((6:Int) < (List.length (PV.els p3):Int)))==false) then
 c28 p1 fun b7 =>
 bif (!b7) then
 ret0 true
 else c17 p1 p2 fun p8 n9 =>
 bif (!(decide (n9=(0:Int)))) then
 ret0 (decide (n9=(4:Int)))
 else bif (true&&roomy (List.length ([]:List PV)+List.length (PV.els p2)) 1) then
 bif (true&&roomy (List.length ([]++(PV.els p2))+List.length (PV.els p3)) 1) then
 c34 p8 p3 fun b10 =>
 c34 p1 (PV.list (([]++(PV.els p2))++(PV.els p3))) fun b11 =>
 bif ((b10==b11)==true) then
 c32 p8 fun b12 =>
 c34 p1 p2 fun b13 =>
 bif ((b12==b13)==true) then
 c26 p1 fun p14 =>
 c34 p14 (PV.list (([]++(PV.els p2))++(PV.els p3))) fun b15 =>
 c34 p1 (PV.list (([]++(PV.els p2))++(PV.els p3))) fun b16 =>
 ret0 (b15==b16)
 else ret0 false
 else ret0 false
 else none
 else none
 else ret0 true
 else ret0 true
 else ret0 true
 else ret0 true

theorem f7_e_mem (k:Nat)(c14:(Bool→R)→R)(c15:PV→Int→(Bool→R)→R)(c16:PV→(Int→R)→R)(c17:PV→PV→(PV→Int→R)→R)(c26:PV→(PV→R)→R)(c28:PV→(Bool→R)→R)(c32:PV→(Bool→R)→R)(c34:PV→PV→(Bool→R)→R)(retF:Bool→R)(p1:PV)(p2:PV)(p3:PV):exec (f7_E k c14 c15 c16 c17 c26 c28 c32 c34) f7_code (endK (f7_E k c14 c15 c16 c17 c26 c28 c32 c34) Try.f7 [] f7_un retF) ⟨[.val 27 p1,.val 28 p2,.val 28 p3,.undef,.undef,.undef,.undef,.undef,.undef,.undef,.undef,.undef,.undef,.undef,.undef,.undef,.undef,.undef,.undef,.undef,.undef,.undef,.undef,.undef,.undef,.undef,.undef,.undef,.undef,.undef,.undef,.undef,.undef,.undef,.undef,.undef,.undef,.undef,.undef,.undef,.undef,.undef,.undef,.undef,.undef,.undef,.undef,.undef,.undef,.undef,.undef,.undef,.undef,.undef,.undef,.undef,.undef,.undef,.undef,.undef,.undef,.undef,.undef,.undef,.undef,.undef,.undef,.undef,.undef,.undef,.undef,.undef,.undef,.undef],[]⟩=f7_e c14 c15 c16 c17 c26 c28 c32 c34 (fun y0=>retF y0) p1 p2 p3:=by kernel_rfl

noncomputable def f7_N (k:Nat)(c14:(Bool→R)→R)(c15:PV→Int→(Bool→R)→R)(c16:PV→(Int→R)→R)(c17:PV→PV→(PV→Int→R)→R)(c26:PV→(PV→R)→R)(c28:PV→(Bool→R)→R)(c32:PV→(Bool→R)→R)(c34:PV→PV→(Bool→R)→R)(ret0:Bool→R)(p1:PV)(p2:PV)(p3:PV):R :=
 f7_e c14 c15 c16 c17 c26 c28 c32 c34 ret0 p1 p2 p3
theorem f7_eq (k:Nat)(c14:(Bool→R)→R)(c15:PV→Int→(Bool→R)→R)(c16:PV→(Int→R)→R)(c17:PV→PV→(PV→Int→R)→R)(c26:PV→(PV→R)→R)(c28:PV→(Bool→R)→R)(c32:PV→(Bool→R)→R)(c34:PV→PV→(Bool→R)→R)(retF:Bool→R)(p1:PV)(p2:PV)(p3:PV):exec (f7_E k c14 c15 c16 c17 c26 c28 c32 c34) f7_code (endK (f7_E k c14 c15 c16 c17 c26 c28 c32 c34) Try.f7 [] f7_un retF) ⟨[.val 27 p1,.val 28 p2,.val 28 p3,.undef,.undef,.undef,.undef,.undef,.undef,.undef,.undef,.undef,.undef,.undef,.undef,.undef,.undef,.undef,.undef,.undef,.undef,.undef,.undef,.undef,.undef,.undef,.undef,.undef,.undef,.undef,.undef,.undef,.undef,.undef,.undef,.undef,.undef,.undef,.undef,.undef,.undef,.undef,.undef,.undef,.undef,.undef,.undef,.undef,.undef,.undef,.undef,.undef,.undef,.undef,.undef,.undef,.undef,.undef,.undef,.undef,.undef,.undef,.undef,.undef,.undef,.undef,.undef,.undef,.undef,.undef,.undef,.undef,.undef,.undef],[]⟩=f7_N k c14 c15 c16 c17 c26 c28 c32 c34 (fun y0=>retF y0) p1 p2 p3 :=
 (f7_e_mem k c14 c15 c16 c17 c26 c28 c32 c34 retF p1 p2 p3)

noncomputable def G7:Nat→PV→PV→PV→(Bool→R)→R
 | 0,_,_,_,_=>none
 | k+1,p1,p2,p3,ret0=>f7_N k (G14 k) (G15 k) (G16 k) (G17 k) (G26 k) (G28 k) (G32 k) (G34 k) ret0 p1 p2 p3
theorem S7:∀ k,Snd Try.prog 7 f7_I f7_O (fun x ret=>G7 k x.1 x.2.1 x.2.2 (fun y0=>ret y0))
 | 0=>snd_none
 | k+1=>snd_step (E:=f7_E k (G14 k) (G15 k) (G16 k) (G17 k) (G26 k) (G28 k) (G32 k) (G34 k)) rfl laidOut noNums (orc_ok (S14 k).o f14_D_ok (orc_ok (S15 k).o f15_D_ok (orc_ok (S16 k).o f16_D_ok (orc_ok (S17 k).o f17_D_ok (orc_ok (S26 k).o f26_D_ok (orc_ok (S28 k).o f28_D_ok (orc_ok (S32 k).o f32_D_ok (orc_ok (S34 k).o f34_D_ok orc0_ok)))))))) (f:=7) (fn:=Try.f7) (code:=f7_code) Try.func7 (by kernel_rfl) (drawsOk_of laidOut (orc_ok (S14 k).o f14_D_ok (orc_ok (S15 k).o f15_D_ok (orc_ok (S16 k).o f16_D_ok (orc_ok (S17 k).o f17_D_ok (orc_ok (S26 k).o f26_D_ok (orc_ok (S28 k).o f28_D_ok (orc_ok (S32 k).o f32_D_ok (orc_ok (S34 k).o f34_D_ok orc0_ok)))))))) mixed (by kernel_rfl)) f7_un f7_un_ok [] (fun _=>rfl)
   (fun x ret=>f7_eq k (G14 k) (G15 k) (G16 k) (G17 k) (G26 k) (G28 k) (G32 k) (G34 k) ret x.1 x.2.1 x.2.2)

end Go.Proofs.Ythdonefmfgnilaa
