/- Functions of the program as Lean functions, each tied to the program by the kernel: catchpolelaw21.AheadMore, catchpolelaw21.AheadRows -/
import Derived.Test.YthdonefmfgnilaaFA
set_option linter.unusedVariables false
set_option maxRecDepth 100000
namespace Go.Proofs.Ythdonefmfgnilaa
open Go Go.X
/- catchpole/catchpolelaw21.big -/
noncomputable def f43_I:PV × Int→List SV × Obs:=fun x=>([.val 27 x.1,.int .i64 x.2],[])
noncomputable def f43_D:List SV→Obs→Option (PV × Int)
 | [.val 27 p1,.int .i64 n2],[]=>some (p1,n2)
 | _,_=>none
theorem f43_D_ok (args:List SV)(B:Obs)(x:PV × Int)(h:f43_D args B=some x):f43_I x=(args,B):=by
 unfold f43_D at h
 split at h
 ·injection h with h;subst h;rfl
 ·cases h
noncomputable def f43_O:Bool→Out:=(fun y=>([.bool y],[]))
noncomputable def f43_un:Out→Option (Bool)
 | ([.bool y0],[])=>some y0
 | _=>none
theorem f43_un_ok (o:Out)(y:Bool)(h:f43_un o=some y):o=f43_O y:=by
 unfold f43_un at h
 split at h
 ·injection h with h;subst h;rfl
 ·cases h
noncomputable def f43_msk:Nat→Option (List Nat):=fun key=>bif key==12 then some [1,2,5] else none
noncomputable def f43_C (c43:PV→Int→(Bool→R)→R):Oracle:=orc 43 f43_D f43_O (fun x ret=>c43 x.1 x.2 (fun y0=>ret y0)) <| orc0
noncomputable def f43_E (k:Nat)(c43:PV→Int→(Bool→R)→R):Env:={ P:=Try.prog,nilOwn:=fun d=>false,fldOwn:=fun d i=>false,ownPar:=ownPars,ownRet:=false,hpD:=fun d=>false,hpF:=hpFs,hpNew:=false,mask:=f43_msk,fuel:=k,C:=f43_C c43 }
noncomputable def f43_code:Code:=Try.f43.body.getD .skip
noncomputable def f43_cw1:Code:=subC f43_code [1,1,0,1,0,0]
noncomputable def f43_hw1_0 (p1:PV)(n2:Int)(n4:Int):St:=⟨[.dead,.int .i64 n2,.ptr 2 [],.dead,.dead,.int .i64 n4,.dead,.dead,.dead,.dead,.dead,.dead,.dead,.dead,.dead,.dead,.dead,.dead,.dead,.dead,.dead,.dead,.dead,.dead,.dead,.dead,.dead,.dead,.dead],[(2,.box 27 (.val 27 p1))]⟩
noncomputable def f43_w1A (k:Nat)(c43:PV→Int→(Bool→R)→R)(retF:Bool→R)(p1:PV)(n2:Int)(n4:Int):R:=loopM (f43_E k c43) f43_cw1 (kont (f43_E k c43) f43_code [1,1,0,1,0] (endK (f43_E k c43) Try.f43 [] f43_un retF)) k (f43_hw1_0 p1 n2 n4)
noncomputable def f43_w1b0 (c43:PV→Int→(Bool→R)→R)(ret0:Bool→R)(next_w1_0:Int→R)(p1:PV)(n2:Int)(n4:Int):R :=
 bif (decide (n4 < (List.length (PV.els (PV.fld p1 3)):Int))) then
 bif (true&&decide ((0:Int)≤n4)&&decide (n4 < (List.length (PV.els (PV.fld p1 3)):Int))) then
 c43 (List.getD (PV.els (PV.fld p1 3)) (n4).toNat PV.nil) (IntKind.wrap .i64 (n2 - (1:Int))) fun b5 =>
 bif b5 then
 ret0 true
 else next_w1_0 (IntKind.wrap .i64 (n4+(1:Int)))
 else none
 else ret0 false

theorem f43_w1b0_mem (k:Nat)(c43:PV→Int→(Bool→R)→R)(retF:Bool→R)(NX_w1:St→R)(p1:PV)(n2:Int)(n4:Int):exec (f43_E k c43) f43_cw1 (purgeK (f43_E k c43) f43_cw1 (loopK NX_w1 (kont (f43_E k c43) f43_code [1,1,0,1,0] (endK (f43_E k c43) Try.f43 [] f43_un retF)))) (f43_hw1_0 p1 n2 n4)=f43_w1b0 c43 (fun y0=>retF y0) (fun n4=>NX_w1 (f43_hw1_0 p1 n2 n4)) p1 n2 n4:=by kernel_rfl

noncomputable def f43_w1b0N (k:Nat)(c43:PV→Int→(Bool→R)→R)(ret0:Bool→R)(next_w1_0:Int→R)(p1:PV)(n2:Int)(n4:Int):R :=
 f43_w1b0 c43 ret0 next_w1_0 p1 n2 n4
theorem f43_w1b0_eq (k:Nat)(c43:PV→Int→(Bool→R)→R)(retF:Bool→R)(NX_w1:St→R)(p1:PV)(n2:Int)(n4:Int):exec (f43_E k c43) f43_cw1 (purgeK (f43_E k c43) f43_cw1 (loopK NX_w1 (kont (f43_E k c43) f43_code [1,1,0,1,0] (endK (f43_E k c43) Try.f43 [] f43_un retF)))) (f43_hw1_0 p1 n2 n4)=f43_w1b0N k c43 (fun y0=>retF y0) (fun n4=>NX_w1 (f43_hw1_0 p1 n2 n4)) p1 n2 n4 :=
 (f43_w1b0_mem k c43 retF NX_w1 p1 n2 n4)

noncomputable def f43_w1B (k:Nat)(c43:PV→Int→(Bool→R)→R)(ret0:Bool→R)(p1:PV)(n2:Int)(nx:Int→R):Int→R:=(fun s=>f43_w1b0N k c43 ret0 (fun n4=>nx n4) p1 n2 s)
noncomputable def f43_w1N (k:Nat)(c43:PV→Int→(Bool→R)→R)(ret0:Bool→R)(p1:PV)(n2:Int)(n4:Int):R:=loopR (f43_w1B k c43 ret0 p1 n2) k n4
theorem f43_w1_eq (k:Nat)(c43:PV→Int→(Bool→R)→R)(retF:Bool→R)(p1:PV)(n2:Int)(n4:Int):f43_w1A k c43 retF p1 n2 n4=f43_w1N k c43 (fun y0=>retF y0) p1 n2 n4 :=
 Eq.mp (by kernel_rfl) (loop_sim (E:=(f43_E k c43)) (c:=f43_cw1) (K:=(kont (f43_E k c43) f43_code [1,1,0,1,0] (endK (f43_E k c43) Try.f43 [] f43_un retF))) (S:=Int) (fun s=>f43_hw1_0 p1 n2 s) (f43_w1B k c43 (fun y0=>retF y0) p1 n2) (fun NX s=>by
  exact Eq.mp (by kernel_rfl) (f43_w1b0_eq k c43 retF NX p1 n2 s)) k n4)

noncomputable def f43_e (c43:PV→Int→(Bool→R)→R)(ret0:Bool→R)(w1:Int→R)(p1:PV)(n2:Int):R :=
 bif ((decide (n2 < (1:Int)))==false) then
 bif (decide ((3:Int) < (List.length (PV.els (PV.fld p1 3)):Int))) then
 ret0 true
 else w1 0
 else ret0 true

theorem f43_e_mem (k:Nat)(c43:PV→Int→(Bool→R)→R)(retF:Bool→R)(p1:PV)(n2:Int):exec (f43_E k c43) f43_code (endK (f43_E k c43) Try.f43 [] f43_un retF) ⟨[.val 27 p1,.int .i64 n2,.undef,.undef,.undef,.undef,.undef,.undef,.undef,.undef,.undef,.undef,.undef,.undef,.undef,.undef,.undef,.undef,.undef,.undef,.undef,.undef,.undef,.undef,.undef,.undef,.undef,.undef,.undef],[]⟩=f43_e c43 (fun y0=>retF y0) (fun n4=>f43_w1A k c43 retF p1 n2 n4) p1 n2:=by kernel_rfl

noncomputable def f43_N (k:Nat)(c43:PV→Int→(Bool→R)→R)(ret0:Bool→R)(p1:PV)(n2:Int):R :=
 f43_e c43 ret0 (fun n4=>f43_w1N k c43 ret0 p1 n2 n4) p1 n2
theorem f43_eq (k:Nat)(c43:PV→Int→(Bool→R)→R)(retF:Bool→R)(p1:PV)(n2:Int):exec (f43_E k c43) f43_code (endK (f43_E k c43) Try.f43 [] f43_un retF) ⟨[.val 27 p1,.int .i64 n2,.undef,.undef,.undef,.undef,.undef,.undef,.undef,.undef,.undef,.undef,.undef,.undef,.undef,.undef,.undef,.undef,.undef,.undef,.undef,.undef,.undef,.undef,.undef,.undef,.undef,.undef,.undef],[]⟩=f43_N k c43 (fun y0=>retF y0) p1 n2 :=
 (f43_e_mem k c43 retF p1 n2).trans (by rw [show (fun n4=>f43_w1A k c43 retF p1 n2 n4)=(fun n4=>f43_w1N k c43 (fun y0=>retF y0) p1 n2 n4) from funext fun n4=>f43_w1_eq k c43 retF p1 n2 n4];rfl)

noncomputable def G43:Nat→PV→Int→(Bool→R)→R
 | 0,_,_,_=>none
 | k+1,p1,n2,ret0=>f43_N k (G43 k) ret0 p1 n2
theorem S43:∀ k,Snd Try.prog 43 f43_I f43_O (fun x ret=>G43 k x.1 x.2 (fun y0=>ret y0))
 | 0=>snd_none
 | k+1=>snd_step (E:=f43_E k (G43 k)) rfl laidOut noNums (orc_ok (S43 k).o f43_D_ok orc0_ok) (f:=43) (fn:=Try.f43) (code:=f43_code) Try.func43 (by kernel_rfl) (drawsOk_of laidOut (orc_ok (S43 k).o f43_D_ok orc0_ok) mixed (by kernel_rfl)) f43_un f43_un_ok [] (fun _=>rfl)
   (fun x ret=>f43_eq k (G43 k) ret x.1 x.2)

/- (*catchpole/ahead.Ahead).Past -/
noncomputable def f41_I:PV × PV × Int × (List HE)→List SV × Obs:=fun x=>([.hval 51 x.1,.val 44 x.2.1,.int .i64 x.2.2.1],[(1000000000000,.hp x.2.2.2)])
noncomputable def f41_D:List SV→Obs→Option (PV × PV × Int × (List HE))
 | [.hval 51 p1,.val 44 p2,.int .i64 n3],[(1000000000000,.hp h4)]=>some (p1,p2,n3,h4)
 | _,_=>none
theorem f41_D_ok (args:List SV)(B:Obs)(x:PV × PV × Int × (List HE))(h:f41_D args B=some x):f41_I x=(args,B):=by
 unfold f41_D at h
 split at h
 ·injection h with h;subst h;rfl
 ·cases h
noncomputable def f41_O:Bool × (List HE)→Out:=(fun y=>([.bool y.1],[(1000000000000,.hp y.2)]))
noncomputable def f41_un:Out→Option (Bool × (List HE))
 | ([.bool y0],[(1000000000000,.hp y1)])=>some (y0,y1)
 | _=>none
theorem f41_un_ok (o:Out)(y:Bool × (List HE))(h:f41_un o=some y):o=f41_O y:=by
 unfold f41_un at h
 split at h
 ·injection h with h;subst h;rfl
 ·cases h
noncomputable def f41_msk:Nat→Option (List Nat):=fun key=> none
noncomputable def f41_C (c71:PV→PV→Int→(List HE)→(Int→Bool→(List HE)→R)→R):Oracle:=orc 71 f71_D f71_O (fun x ret=>c71 x.1 x.2.1 x.2.2.1 x.2.2.2 (fun y0 y1 y2=>ret (y0,y1,y2))) <| orc0
noncomputable def f41_E (k:Nat)(c71:PV→PV→Int→(List HE)→(Int→Bool→(List HE)→R)→R):Env:={ P:=Try.prog,nilOwn:=fun d=>false,fldOwn:=fun d i=>false,ownPar:=ownPars,ownRet:=false,hpD:=fun d=>false,hpF:=hpFs,hpNew:=false,mask:=f41_msk,fuel:=k,C:=f41_C c71 }
noncomputable def f41_code:Code:=Try.f41.body.getD .skip
noncomputable def f41_e (c71:PV→PV→Int→(List HE)→(Int→Bool→(List HE)→R)→R)(ret0:Bool→(List HE)→R)(p1:PV)(p2:PV)(n3:Int)(h4:List HE):R :=
 c71 p1 p2 n3 h4 fun n5 b6 h7 =>
 bif (b6==true) then
 bif (PV.isRp p1) then
 bif (true&&true&&(hokV h7 82 (PV.rI p1))) then
 bif (true&&decide ((0:Int)≤n5)&&decide (n5 < ((PV.rN (PV.fld (hvarOf h7 (PV.rI p1)) 2)):Int))) then
 bif (true&&true&&(hokR h7 87 (PV.rI (PV.fld (hvarOf h7 (PV.rI p1)) 2)) n5)) then
 bif (true&&decide ((0:Int)≤n3)&&decide (n3 < ((PV.rN (List.getD (hrowOf h7 (PV.rI (PV.fld (hvarOf h7 (PV.rI p1)) 2))) (n5).toNat PV.nil)):Int))) then
 bif (true&&true&&(hokR h7 4 (PV.rI (List.getD (hrowOf h7 (PV.rI (PV.fld (hvarOf h7 (PV.rI p1)) 2))) (n5).toNat PV.nil)) n3)) then
 let b8:Bool:=(PV.tt (List.getD (hrowOf h7 (PV.rI (List.getD (hrowOf h7 (PV.rI (PV.fld (hvarOf h7 (PV.rI p1)) 2))) (n5).toNat PV.nil))) (n3).toNat PV.nil))
 ret0 b8 h7
 else none
 else none
 else none
 else none
 else none
 else none
 else ret0 false h7

theorem f41_e_mem (k:Nat)(c71:PV→PV→Int→(List HE)→(Int→Bool→(List HE)→R)→R)(retF:Bool × (List HE)→R)(p1:PV)(p2:PV)(n3:Int)(h4:List HE):exec (f41_E k c71) f41_code (endK (f41_E k c71) Try.f41 [1000000000000] f41_un retF) ⟨[.hval 51 p1,.val 44 p2,.int .i64 n3,.undef,.undef,.undef,.undef,.undef,.undef,.undef,.undef,.undef,.undef,.undef,.undef,.undef,.undef,.undef,.undef,.undef,.undef,.undef,.undef,.undef,.undef,.undef,.undef,.undef,.undef],[(1000000000000,.hp h4)]⟩=f41_e c71 (fun y0 y1=>retF (y0,y1)) p1 p2 n3 h4:=by kernel_rfl

noncomputable def f41_N (k:Nat)(c71:PV→PV→Int→(List HE)→(Int→Bool→(List HE)→R)→R)(ret0:Bool→(List HE)→R)(p1:PV)(p2:PV)(n3:Int)(h4:List HE):R :=
 f41_e c71 ret0 p1 p2 n3 h4
theorem f41_eq (k:Nat)(c71:PV→PV→Int→(List HE)→(Int→Bool→(List HE)→R)→R)(retF:Bool × (List HE)→R)(p1:PV)(p2:PV)(n3:Int)(h4:List HE):exec (f41_E k c71) f41_code (endK (f41_E k c71) Try.f41 [1000000000000] f41_un retF) ⟨[.hval 51 p1,.val 44 p2,.int .i64 n3,.undef,.undef,.undef,.undef,.undef,.undef,.undef,.undef,.undef,.undef,.undef,.undef,.undef,.undef,.undef,.undef,.undef,.undef,.undef,.undef,.undef,.undef,.undef,.undef,.undef,.undef],[(1000000000000,.hp h4)]⟩=f41_N k c71 (fun y0 y1=>retF (y0,y1)) p1 p2 n3 h4 :=
 (f41_e_mem k c71 retF p1 p2 n3 h4)

noncomputable def G41:Nat→PV→PV→Int→(List HE)→(Bool→(List HE)→R)→R
 | 0,_,_,_,_,_=>none
 | k+1,p1,p2,n3,h4,ret0=>f41_N k (G71 k) ret0 p1 p2 n3 h4
theorem S41:∀ k,Snd Try.prog 41 f41_I f41_O (fun x ret=>G41 k x.1 x.2.1 x.2.2.1 x.2.2.2 (fun y0 y1=>ret (y0,y1)))
 | 0=>snd_none
 | k+1=>snd_step (E:=f41_E k (G71 k)) rfl laidOut noNums (orc_ok (S71 k).o f71_D_ok orc0_ok) (f:=41) (fn:=Try.f41) (code:=f41_code) Try.func41 (by kernel_rfl) (drawsOk_of laidOut (orc_ok (S71 k).o f71_D_ok orc0_ok) mixed (by kernel_rfl)) f41_un f41_un_ok [1000000000000] (fun _=>rfl)
   (fun x ret=>f41_eq k (G71 k) ret x.1 x.2.1 x.2.2.1 x.2.2.2)

/- catchpole/catchpolelaw21.AheadMore -/
noncomputable def f9_I:PV × PV × PV × Int→List SV × Obs:=fun x=>([.val 27 x.1,.val 28 x.2.1,.val 44 x.2.2.1,.int .i64 x.2.2.2],[])
noncomputable def f9_D:List SV→Obs→Option (PV × PV × PV × Int)
 | [.val 27 p1,.val 28 p2,.val 44 p3,.int .i64 n4],[]=>some (p1,p2,p3,n4)
 | _,_=>none
noncomputable def f9_O:Bool→Out:=(fun y=>([.bool y],[]))
noncomputable def f9_un:Out→Option (Bool)
 | ([.bool y0],[])=>some y0
 | _=>none
noncomputable def f9_msk:Nat→Option (List Nat):=fun key=> none
noncomputable def f9_C (c16:PV→(Int→R)→R)(c28:PV→(Bool→R)→R)(c35:(Bool→R)→R)(c39:PV→PV→Bool→(List HE)→(PV→Int→(List HE)→R)→R)(c41:PV→PV→Int→(List HE)→(Bool→(List HE)→R)→R)(c42:PV→PV→Int→(List HE)→(Bool→(List HE)→R)→R)(c43:PV→Int→(Bool→R)→R):Oracle:=orc 16 f16_D f16_O (fun x ret=>c16 x (fun y0=>ret y0)) <| orc 28 f28_D f28_O (fun x ret=>c28 x (fun y0=>ret y0)) <| orc 35 f35_D f35_O (fun x ret=>c35 (fun y0=>ret y0)) <| orc 39 f39_D f39_O (fun x ret=>c39 x.1 x.2.1 x.2.2.1 x.2.2.2 (fun y0 y1 y2=>ret (y0,y1,y2))) <| orc 41 f41_D f41_O (fun x ret=>c41 x.1 x.2.1 x.2.2.1 x.2.2.2 (fun y0 y1=>ret (y0,y1))) <| orc 42 f42_D f42_O (fun x ret=>c42 x.1 x.2.1 x.2.2.1 x.2.2.2 (fun y0 y1=>ret (y0,y1))) <| orc 43 f43_D f43_O (fun x ret=>c43 x.1 x.2 (fun y0=>ret y0)) <| orc0
noncomputable def f9_E (k:Nat)(c16:PV→(Int→R)→R)(c28:PV→(Bool→R)→R)(c35:(Bool→R)→R)(c39:PV→PV→Bool→(List HE)→(PV→Int→(List HE)→R)→R)(c41:PV→PV→Int→(List HE)→(Bool→(List HE)→R)→R)(c42:PV→PV→Int→(List HE)→(Bool→(List HE)→R)→R)(c43:PV→Int→(Bool→R)→R):Env:={ P:=Try.prog,nilOwn:=fun d=>false,fldOwn:=fun d i=>false,ownPar:=ownPars,ownRet:=false,hpD:=fun d=>false,hpF:=hpFs,hpNew:=true,mask:=f9_msk,fuel:=k,C:=f9_C c16 c28 c35 c39 c41 c42 c43 }
noncomputable def f9_code:Code:=Try.f9.body.getD .skip
noncomputable def f9_e (c16:PV→(Int→R)→R)(c28:PV→(Bool→R)→R)(c35:(Bool→R)→R)(c39:PV→PV→Bool→(List HE)→(PV→Int→(List HE)→R)→R)(c41:PV→PV→Int→(List HE)→(Bool→(List HE)→R)→R)(c42:PV→PV→Int→(List HE)→(Bool→(List HE)→R)→R)(c43:PV→Int→(Bool→R)→R)(ret0:Bool→R)(p1:PV)(p2:PV)(p3:PV)(n4:Int):R :=
 c35 fun b5 =>
 bif (!b5) then
 ret0 false
 else c43 p1 40 fun b6 =>
 bif (b6==false) then
 c28 p1 fun b7 =>
 bif ((!b7)==false) then
 c16 p1 fun n8 =>
 bif ((decide ((50:Int) < n8))==false) then
 bif ((decide ((8:Int) < (List.length (PV.els p2):Int)))==false) then
 bif (decide ((30:Int) < (List.length (PV.els p3):Int))) then
 ret0 true
 else c39 p1 p2 true ([]:List HE) fun p9 n10 h11 =>
 c39 p1 p2 false h11 fun p12 n13 h14 =>
 bif ((!(decide (n10=(0:Int))))==false) then
 bif (!(decide (n13=(0:Int)))) then
 ret0 false
 else c42 p9 p3 n4 h14 fun b15 h16 =>
 bif ((!b15)==false) then
 c42 p12 p3 n4 h16 fun b17 h18 =>
 bif (b17==true) then
 c41 p9 p3 n4 h18 fun b19 h20 =>
 bif ((!b19)==false) then
 c41 p12 p3 n4 h20 fun b21 h22 =>
 bif (b21==true) then
 c42 p9 p3 n4 h22 fun b23 h24 =>
 bif ((!b23)==false) then
 bif ((decide ((0:Int)≤n4))==true) then
 ret0 (decide (n4≤(List.length (PV.els p2):Int)))
 else ret0 false
 else ret0 true
 else ret0 false
 else c42 p9 p3 n4 h20 fun b25 h26 =>
 bif ((!b25)==false) then
 bif ((decide ((0:Int)≤n4))==true) then
 ret0 (decide (n4≤(List.length (PV.els p2):Int)))
 else ret0 false
 else ret0 true
 else ret0 false
 else c41 p9 p3 n4 h16 fun b27 h28 =>
 bif ((!b27)==false) then
 c41 p12 p3 n4 h28 fun b29 h30 =>
 bif (b29==true) then
 c42 p9 p3 n4 h30 fun b31 h32 =>
 bif ((!b31)==false) then
 bif ((decide ((0:Int)≤n4))==true) then
 ret0 (decide (n4≤(List.length (PV.els p2):Int)))
 else ret0 false
 else ret0 true
 else ret0 false
 else c42 p9 p3 n4 h28 fun b33 h34 =>
 bif ((!b33)==false) then
 bif ((decide ((0:Int)≤n4))==true) then
 ret0 (decide (n4≤(List.length (PV.els p2):Int)))
 else ret0 false
 else ret0 true
 else ret0 false
 else ret0 true
 else ret0 true
 else ret0 true
 else ret0 true

noncomputable def f9_N (k:Nat)(c16:PV→(Int→R)→R)(c28:PV→(Bool→R)→R)(c35:(Bool→R)→R)(c39:PV→PV→Bool→(List HE)→(PV→Int→(List HE)→R)→R)(c41:PV→PV→Int→(List HE)→(Bool→(List HE)→R)→R)(c42:PV→PV→Int→(List HE)→(Bool→(List HE)→R)→R)(c43:PV→Int→(Bool→R)→R)(ret0:Bool→R)(p1:PV)(p2:PV)(p3:PV)(n4:Int):R :=
 f9_e c16 c28 c35 c39 c41 c42 c43 ret0 p1 p2 p3 n4
noncomputable def G9:Nat→PV→PV→PV→Int→(Bool→R)→R
 | 0,_,_,_,_,_=>none
 | k+1,p1,p2,p3,n4,ret0=>f9_N k (G16 k) (G28 k) (G35 k) (G39 k) (G41 k) (G42 k) (G43 k) ret0 p1 p2 p3 n4
/- catchpole/lang.Ends -/
noncomputable def f44_I:PV × PV × Int→List SV × Obs:=fun x=>([.val 27 x.1,.val 28 x.2.1,.int .i64 x.2.2],[])
noncomputable def f44_D:List SV→Obs→Option (PV × PV × Int)
 | [.val 27 p1,.val 28 p2,.int .i64 n3],[]=>some (p1,p2,n3)
 | _,_=>none
theorem f44_D_ok (args:List SV)(B:Obs)(x:PV × PV × Int)(h:f44_D args B=some x):f44_I x=(args,B):=by
 unfold f44_D at h
 split at h
 ·injection h with h;subst h;rfl
 ·cases h
noncomputable def f44_O:PV→Out:=(fun y=>([.val 44 y],[]))
noncomputable def f44_un:Out→Option (PV)
 | ([.val 44 y0],[])=>some y0
 | _=>none
theorem f44_un_ok (o:Out)(y:PV)(h:f44_un o=some y):o=f44_O y:=by
 unfold f44_un at h
 split at h
 ·injection h with h;subst h;rfl
 ·cases h
noncomputable def f44_msk:Nat→Option (List Nat):=fun key=>bif key==18 then some [1,2,7,8,9] else none
noncomputable def f44_C (c28:PV→(Bool→R)→R)(c66:PV→PV→(List HE)→(PV→(List HE)→R)→R)(c67:PV→Int→Int→Int→(List HE)→(Bool→(List HE)→R)→R):Oracle:=orc 28 f28_D f28_O (fun x ret=>c28 x (fun y0=>ret y0)) <| orc 66 f66_D f66_O (fun x ret=>c66 x.1 x.2.1 x.2.2 (fun y0 y1=>ret (y0,y1))) <| orc 67 f67_D f67_O (fun x ret=>c67 x.1 x.2.1 x.2.2.1 x.2.2.2.1 x.2.2.2.2 (fun y0 y1=>ret (y0,y1))) <| orc0
noncomputable def f44_E (k:Nat)(c28:PV→(Bool→R)→R)(c66:PV→PV→(List HE)→(PV→(List HE)→R)→R)(c67:PV→Int→Int→Int→(List HE)→(Bool→(List HE)→R)→R):Env:={ P:=Try.prog,nilOwn:=fun d=>d==7,fldOwn:=fun d i=>false,ownPar:=ownPars,ownRet:=false,hpD:=fun d=>false,hpF:=hpFs,hpNew:=true,mask:=f44_msk,fuel:=k,C:=f44_C c28 c66 c67 }
noncomputable def f44_code:Code:=Try.f44.body.getD .skip
noncomputable def f44_cw1:Code:=subC f44_code [1,1,1,1,0,1,0,0]
noncomputable def f44_hw1_0 (p2:PV)(n3:Int)(p5:PV)(n9:Int)(l10:List PV)(h11:List HE):St:=⟨[.dead,.val 28 p2,.int .i64 n3,.dead,.dead,.dead,.dead,.own 44 7,.hval 76 p5,.int .i64 n9,.dead,.dead,.dead,.dead,.dead,.dead,.dead,.dead,.dead,.dead,.dead,.dead,.dead,.dead,.dead,.dead,.dead,.dead,.dead,.dead,.dead,.dead,.dead,.dead,.dead,.dead,.dead,.dead,.dead,.dead,.dead,.dead,.dead,.dead,.dead,.dead,.dead],[(7,.row 3 l10),(1000000000000,.hp h11)]⟩
noncomputable def f44_w1A (k:Nat)(c28:PV→(Bool→R)→R)(c66:PV→PV→(List HE)→(PV→(List HE)→R)→R)(c67:PV→Int→Int→Int→(List HE)→(Bool→(List HE)→R)→R)(retF:PV→R)(p2:PV)(n3:Int)(p5:PV)(n9:Int)(l10:List PV)(h11:List HE):R:=loopM (f44_E k c28 c66 c67) f44_cw1 (kont (f44_E k c28 c66 c67) f44_code [1,1,1,1,0,1,0] (endK (f44_E k c28 c66 c67) Try.f44 [] f44_un retF)) k (f44_hw1_0 p2 n3 p5 n9 l10 h11)
noncomputable def f44_w1b0 (c28:PV→(Bool→R)→R)(c66:PV→PV→(List HE)→(PV→(List HE)→R)→R)(c67:PV→Int→Int→Int→(List HE)→(Bool→(List HE)→R)→R)(ret0:PV→R)(next_w1_0:Int→(List PV)→(List HE)→R)(p2:PV)(n3:Int)(p5:PV)(n9:Int)(l10:List PV)(h11:List HE):R :=
 bif (decide (n9≤(List.length (PV.els p2):Int))) then
 c67 p5 0 n3 n9 h11 fun b12 h13 =>
 bif b12 then
 bif (true&&roomy (List.length l10+List.length [(PV.int n9)]) 8) then
 next_w1_0 (IntKind.wrap .i64 (n9+(1:Int))) (l10++[(PV.int n9)]) h13
 else none
 else next_w1_0 (IntKind.wrap .i64 (n9+(1:Int))) l10 h13
 else ret0 (PV.list l10)

theorem f44_w1b0_mem (k:Nat)(c28:PV→(Bool→R)→R)(c66:PV→PV→(List HE)→(PV→(List HE)→R)→R)(c67:PV→Int→Int→Int→(List HE)→(Bool→(List HE)→R)→R)(retF:PV→R)(NX_w1:St→R)(p2:PV)(n3:Int)(p5:PV)(n9:Int)(l10:List PV)(h11:List HE):exec (f44_E k c28 c66 c67) f44_cw1 (purgeK (f44_E k c28 c66 c67) f44_cw1 (loopK NX_w1 (kont (f44_E k c28 c66 c67) f44_code [1,1,1,1,0,1,0] (endK (f44_E k c28 c66 c67) Try.f44 [] f44_un retF)))) (f44_hw1_0 p2 n3 p5 n9 l10 h11)=f44_w1b0 c28 c66 c67 (fun y0=>retF y0) (fun n9 l10 h11=>NX_w1 (f44_hw1_0 p2 n3 p5 n9 l10 h11)) p2 n3 p5 n9 l10 h11:=by kernel_rfl

noncomputable def f44_w1b0N (k:Nat)(c28:PV→(Bool→R)→R)(c66:PV→PV→(List HE)→(PV→(List HE)→R)→R)(c67:PV→Int→Int→Int→(List HE)→(Bool→(List HE)→R)→R)(ret0:PV→R)(next_w1_0:Int→(List PV)→(List HE)→R)(p2:PV)(n3:Int)(p5:PV)(n9:Int)(l10:List PV)(h11:List HE):R :=
 f44_w1b0 c28 c66 c67 ret0 next_w1_0 p2 n3 p5 n9 l10 h11
theorem f44_w1b0_eq (k:Nat)(c28:PV→(Bool→R)→R)(c66:PV→PV→(List HE)→(PV→(List HE)→R)→R)(c67:PV→Int→Int→Int→(List HE)→(Bool→(List HE)→R)→R)(retF:PV→R)(NX_w1:St→R)(p2:PV)(n3:Int)(p5:PV)(n9:Int)(l10:List PV)(h11:List HE):exec (f44_E k c28 c66 c67) f44_cw1 (purgeK (f44_E k c28 c66 c67) f44_cw1 (loopK NX_w1 (kont (f44_E k c28 c66 c67) f44_code [1,1,1,1,0,1,0] (endK (f44_E k c28 c66 c67) Try.f44 [] f44_un retF)))) (f44_hw1_0 p2 n3 p5 n9 l10 h11)=f44_w1b0N k c28 c66 c67 (fun y0=>retF y0) (fun n9 l10 h11=>NX_w1 (f44_hw1_0 p2 n3 p5 n9 l10 h11)) p2 n3 p5 n9 l10 h11 :=
 (f44_w1b0_mem k c28 c66 c67 retF NX_w1 p2 n3 p5 n9 l10 h11)

noncomputable def f44_w1B (k:Nat)(c28:PV→(Bool→R)→R)(c66:PV→PV→(List HE)→(PV→(List HE)→R)→R)(c67:PV→Int→Int→Int→(List HE)→(Bool→(List HE)→R)→R)(ret0:PV→R)(p2:PV)(n3:Int)(p5:PV)(nx:Int × (List PV) × (List HE)→R):Int × (List PV) × (List HE)→R:=(fun s=>f44_w1b0N k c28 c66 c67 ret0 (fun n9 l10 h11=>nx (n9,l10,h11)) p2 n3 p5 s.1 s.2.1 s.2.2)
noncomputable def f44_w1N (k:Nat)(c28:PV→(Bool→R)→R)(c66:PV→PV→(List HE)→(PV→(List HE)→R)→R)(c67:PV→Int→Int→Int→(List HE)→(Bool→(List HE)→R)→R)(ret0:PV→R)(p2:PV)(n3:Int)(p5:PV)(n9:Int)(l10:List PV)(h11:List HE):R:=loopR (f44_w1B k c28 c66 c67 ret0 p2 n3 p5) k (n9,l10,h11)
theorem f44_w1_eq (k:Nat)(c28:PV→(Bool→R)→R)(c66:PV→PV→(List HE)→(PV→(List HE)→R)→R)(c67:PV→Int→Int→Int→(List HE)→(Bool→(List HE)→R)→R)(retF:PV→R)(p2:PV)(n3:Int)(p5:PV)(n9:Int)(l10:List PV)(h11:List HE):f44_w1A k c28 c66 c67 retF p2 n3 p5 n9 l10 h11=f44_w1N k c28 c66 c67 (fun y0=>retF y0) p2 n3 p5 n9 l10 h11 :=
 Eq.mp (by kernel_rfl) (loop_sim (E:=(f44_E k c28 c66 c67)) (c:=f44_cw1) (K:=(kont (f44_E k c28 c66 c67) f44_code [1,1,1,1,0,1,0] (endK (f44_E k c28 c66 c67) Try.f44 [] f44_un retF))) (S:=Int × (List PV) × (List HE)) (fun s=>f44_hw1_0 p2 n3 p5 s.1 s.2.1 s.2.2) (f44_w1B k c28 c66 c67 (fun y0=>retF y0) p2 n3 p5) (fun NX s=>by
  exact Eq.mp (by kernel_rfl) (f44_w1b0_eq k c28 c66 c67 retF NX p2 n3 p5 s.1 s.2.1 s.2.2)) k (n9,l10,h11))

noncomputable def f44_e (c28:PV→(Bool→R)→R)(c66:PV→PV→(List HE)→(PV→(List HE)→R)→R)(c67:PV→Int→Int→Int→(List HE)→(Bool→(List HE)→R)→R)(ret0:PV→R)(w1:PV→Int→(List PV)→(List HE)→R)(p1:PV)(p2:PV)(n3:Int):R :=
 c28 p1 fun b4 =>
 bif ((!b4)==false) then
 bif ((decide ((256:Int) < (List.length (PV.els p2):Int)))==false) then
 bif ((decide (n3 < (0:Int)))==false) then
 bif (decide ((List.length (PV.els p2):Int) < n3)) then
 ret0 (PV.list [])
 else c66 p1 p2 ([]:List HE) fun p5 h6 =>
 w1 p5 n3 [] h6
 else ret0 (PV.list [])
 else ret0 (PV.list [])
 else ret0 (PV.list [])

theorem f44_e_mem (k:Nat)(c28:PV→(Bool→R)→R)(c66:PV→PV→(List HE)→(PV→(List HE)→R)→R)(c67:PV→Int→Int→Int→(List HE)→(Bool→(List HE)→R)→R)(retF:PV→R)(p1:PV)(p2:PV)(n3:Int):exec (f44_E k c28 c66 c67) f44_code (endK (f44_E k c28 c66 c67) Try.f44 [] f44_un retF) ⟨[.val 27 p1,.val 28 p2,.int .i64 n3,.undef,.undef,.undef,.undef,.undef,.undef,.undef,.undef,.undef,.undef,.undef,.undef,.undef,.undef,.undef,.undef,.undef,.undef,.undef,.undef,.undef,.undef,.undef,.undef,.undef,.undef,.undef,.undef,.undef,.undef,.undef,.undef,.undef,.undef,.undef,.undef,.undef,.undef,.undef,.undef,.undef,.undef,.undef,.undef],[(1000000000000,.hp ([]:List HE))]⟩=f44_e c28 c66 c67 (fun y0=>retF y0) (fun p5 n9 l10 h11=>f44_w1A k c28 c66 c67 retF p2 n3 p5 n9 l10 h11) p1 p2 n3:=by kernel_rfl

noncomputable def f44_N (k:Nat)(c28:PV→(Bool→R)→R)(c66:PV→PV→(List HE)→(PV→(List HE)→R)→R)(c67:PV→Int→Int→Int→(List HE)→(Bool→(List HE)→R)→R)(ret0:PV→R)(p1:PV)(p2:PV)(n3:Int):R :=
 f44_e c28 c66 c67 ret0 (fun p5 n9 l10 h11=>f44_w1N k c28 c66 c67 ret0 p2 n3 p5 n9 l10 h11) p1 p2 n3
theorem f44_eq (k:Nat)(c28:PV→(Bool→R)→R)(c66:PV→PV→(List HE)→(PV→(List HE)→R)→R)(c67:PV→Int→Int→Int→(List HE)→(Bool→(List HE)→R)→R)(retF:PV→R)(p1:PV)(p2:PV)(n3:Int):exec (f44_E k c28 c66 c67) f44_code (endK (f44_E k c28 c66 c67) Try.f44 [] f44_un retF) ⟨[.val 27 p1,.val 28 p2,.int .i64 n3,.undef,.undef,.undef,.undef,.undef,.undef,.undef,.undef,.undef,.undef,.undef,.undef,.undef,.undef,.undef,.undef,.undef,.undef,.undef,.undef,.undef,.undef,.undef,.undef,.undef,.undef,.undef,.undef,.undef,.undef,.undef,.undef,.undef,.undef,.undef,.undef,.undef,.undef,.undef,.undef,.undef,.undef,.undef,.undef],[(1000000000000,.hp ([]:List HE))]⟩=f44_N k c28 c66 c67 (fun y0=>retF y0) p1 p2 n3 :=
 (f44_e_mem k c28 c66 c67 retF p1 p2 n3).trans (by rw [show (fun p5 n9 l10 h11=>f44_w1A k c28 c66 c67 retF p2 n3 p5 n9 l10 h11)=(fun p5 n9 l10 h11=>f44_w1N k c28 c66 c67 (fun y0=>retF y0) p2 n3 p5 n9 l10 h11) from funext fun p5=>funext fun n9=>funext fun l10=>funext fun h11=>f44_w1_eq k c28 c66 c67 retF p2 n3 p5 n9 l10 h11];rfl)

noncomputable def G44:Nat→PV→PV→Int→(PV→R)→R
 | 0,_,_,_,_=>none
 | k+1,p1,p2,n3,ret0=>f44_N k (G28 k) (G66 k) (G67 k) ret0 p1 p2 n3
theorem S44:∀ k,Snd Try.prog 44 f44_I f44_O (fun x ret=>G44 k x.1 x.2.1 x.2.2 (fun y0=>ret y0))
 | 0=>snd_none
 | k+1=>snd_step (E:=f44_E k (G28 k) (G66 k) (G67 k)) rfl laidOut noNums (orc_ok (S28 k).o f28_D_ok (orc_ok (S66 k).o f66_D_ok (orc_ok (S67 k).o f67_D_ok orc0_ok))) (f:=44) (fn:=Try.f44) (code:=f44_code) Try.func44 (by kernel_rfl) (drawsOk_of laidOut (orc_ok (S28 k).o f28_D_ok (orc_ok (S66 k).o f66_D_ok (orc_ok (S67 k).o f67_D_ok orc0_ok))) mixed (by kernel_rfl)) f44_un f44_un_ok [] (fun _=>rfl)
   (fun x ret=>f44_eq k (G28 k) (G66 k) (G67 k) ret x.1 x.2.1 x.2.2)

/- catchpole/catchpolelaw21.AheadRows -/
noncomputable def f11_I:PV × PV × PV × Bool × Int→List SV × Obs:=fun x=>([.val 27 x.1,.val 27 x.2.1,.val 28 x.2.2.1,.bool x.2.2.2.1,.int .i64 x.2.2.2.2],[])
noncomputable def f11_D:List SV→Obs→Option (PV × PV × PV × Bool × Int)
 | [.val 27 p1,.val 27 p2,.val 28 p3,.bool b4,.int .i64 n5],[]=>some (p1,p2,p3,b4,n5)
 | _,_=>none
noncomputable def f11_O:Bool→Out:=(fun y=>([.bool y],[]))
noncomputable def f11_un:Out→Option (Bool)
 | ([.bool y0],[])=>some y0
 | _=>none
theorem f11_un_ok (o:Out)(y:Bool)(h:f11_un o=some y):o=f11_O y:=by
 unfold f11_un at h
 split at h
 ·injection h with h;subst h;rfl
 ·cases h
noncomputable def f11_msk:Nat→Option (List Nat):=fun key=>bif key==36 then some [2,3,4,12,14,15,16] else none
noncomputable def f11_C (c16:PV→(Int→R)→R)(c28:PV→(Bool→R)→R)(c35:(Bool→R)→R)(c36:PV→PV→(PV→R)→R)(c39:PV→PV→Bool→(List HE)→(PV→Int→(List HE)→R)→R)(c41:PV→PV→Int→(List HE)→(Bool→(List HE)→R)→R)(c42:PV→PV→Int→(List HE)→(Bool→(List HE)→R)→R)(c43:PV→Int→(Bool→R)→R)(c44:PV→PV→Int→(PV→R)→R):Oracle:=orc 16 f16_D f16_O (fun x ret=>c16 x (fun y0=>ret y0)) <| orc 28 f28_D f28_O (fun x ret=>c28 x (fun y0=>ret y0)) <| orc 35 f35_D f35_O (fun x ret=>c35 (fun y0=>ret y0)) <| orc 36 f36_D f36_O (fun x ret=>c36 x.1 x.2 (fun y0=>ret y0)) <| orc 39 f39_D f39_O (fun x ret=>c39 x.1 x.2.1 x.2.2.1 x.2.2.2 (fun y0 y1 y2=>ret (y0,y1,y2))) <| orc 41 f41_D f41_O (fun x ret=>c41 x.1 x.2.1 x.2.2.1 x.2.2.2 (fun y0 y1=>ret (y0,y1))) <| orc 42 f42_D f42_O (fun x ret=>c42 x.1 x.2.1 x.2.2.1 x.2.2.2 (fun y0 y1=>ret (y0,y1))) <| orc 43 f43_D f43_O (fun x ret=>c43 x.1 x.2 (fun y0=>ret y0)) <| orc 44 f44_D f44_O (fun x ret=>c44 x.1 x.2.1 x.2.2 (fun y0=>ret y0)) <| orc0
noncomputable def f11_E (k:Nat)(c16:PV→(Int→R)→R)(c28:PV→(Bool→R)→R)(c35:(Bool→R)→R)(c36:PV→PV→(PV→R)→R)(c39:PV→PV→Bool→(List HE)→(PV→Int→(List HE)→R)→R)(c41:PV→PV→Int→(List HE)→(Bool→(List HE)→R)→R)(c42:PV→PV→Int→(List HE)→(Bool→(List HE)→R)→R)(c43:PV→Int→(Bool→R)→R)(c44:PV→PV→Int→(PV→R)→R):Env:={ P:=Try.prog,nilOwn:=fun d=>false,fldOwn:=fun d i=>false,ownPar:=ownPars,ownRet:=false,hpD:=fun d=>false,hpF:=hpFs,hpNew:=true,mask:=f11_msk,fuel:=k,C:=f11_C c16 c28 c35 c36 c39 c41 c42 c43 c44 }
noncomputable def f11_code:Code:=Try.f11.body.getD .skip
noncomputable def f11_cw1:Code:=subC f11_code [1,1,1,1,1,1,1,1,0,1,0,0]
noncomputable def f11_hw1_0 (p3:PV)(b4:Bool)(n5:Int)(p12:PV)(p15:PV)(b34:Bool)(n35:Int)(h36:List HE):St:=⟨[.dead,.dead,.val 28 p3,.bool b4,.int .i64 n5,.dead,.dead,.dead,.dead,.dead,.dead,.dead,.hval 51 p12,.dead,.bool b34,.val 44 p15,.int .i64 n35,.dead,.dead,.dead,.dead,.dead,.dead,.dead,.dead,.dead,.dead,.dead,.dead,.dead,.dead,.dead,.dead,.dead,.dead,.dead,.dead,.dead,.dead,.dead,.dead,.dead,.dead,.dead,.dead,.dead,.dead,.dead,.dead,.dead,.dead,.dead,.dead,.dead,.dead,.dead,.dead,.dead,.dead,.dead,.dead,.dead,.dead,.dead,.dead,.dead,.dead,.dead,.dead,.dead,.dead,.dead,.dead,.dead,.dead,.dead,.dead,.dead,.dead,.dead,.dead,.dead,.dead,.dead,.dead,.dead,.dead,.dead,.dead,.dead,.dead,.dead,.dead,.dead,.dead,.dead,.dead,.dead,.dead,.dead,.dead,.dead,.dead,.dead,.dead,.dead,.dead,.dead,.dead,.dead,.dead,.dead,.dead,.dead,.dead,.dead,.dead,.dead,.dead,.dead,.dead,.dead,.dead,.dead,.dead,.dead,.dead,.dead,.dead,.dead,.dead,.dead,.dead,.dead],[(1000000000000,.hp h36)]⟩
noncomputable def f11_w1A (k:Nat)(c16:PV→(Int→R)→R)(c28:PV→(Bool→R)→R)(c35:(Bool→R)→R)(c36:PV→PV→(PV→R)→R)(c39:PV→PV→Bool→(List HE)→(PV→Int→(List HE)→R)→R)(c41:PV→PV→Int→(List HE)→(Bool→(List HE)→R)→R)(c42:PV→PV→Int→(List HE)→(Bool→(List HE)→R)→R)(c43:PV→Int→(Bool→R)→R)(c44:PV→PV→Int→(PV→R)→R)(retF:Bool→R)(p3:PV)(b4:Bool)(n5:Int)(p12:PV)(p15:PV)(b34:Bool)(n35:Int)(h36:List HE):R:=loopM (f11_E k c16 c28 c35 c36 c39 c41 c42 c43 c44) f11_cw1 (kont (f11_E k c16 c28 c35 c36 c39 c41 c42 c43 c44) f11_code [1,1,1,1,1,1,1,1,0,1,0] (endK (f11_E k c16 c28 c35 c36 c39 c41 c42 c43 c44) Try.f11 [] f11_un retF)) k (f11_hw1_0 p3 b4 n5 p12 p15 b34 n35 h36)
noncomputable def f11_w1b0 (c16:PV→(Int→R)→R)(c28:PV→(Bool→R)→R)(c35:(Bool→R)→R)(c36:PV→PV→(PV→R)→R)(c39:PV→PV→Bool→(List HE)→(PV→Int→(List HE)→R)→R)(c41:PV→PV→Int→(List HE)→(Bool→(List HE)→R)→R)(c42:PV→PV→Int→(List HE)→(Bool→(List HE)→R)→R)(c43:PV→Int→(Bool→R)→R)(c44:PV→PV→Int→(PV→R)→R)(ret0:Bool→R)(next_w1_0:Bool→Int→(List HE)→R)(p3:PV)(b4:Bool)(n5:Int)(p12:PV)(p15:PV)(b34:Bool)(n35:Int)(h36:List HE):R :=
 bif (decide (n35 < (List.length (PV.els p15):Int))) then
 bif (b34==false) then
 bif (true&&decide ((0:Int)≤n35)&&decide (n35 < (List.length (PV.els p15):Int))) then
 c42 p12 (PV.list [(PV.int 1)]) (PV.num (List.getD (PV.els p15) (n35).toNat PV.nil)) h36 fun b37 h38 =>
 next_w1_0 b37 (IntKind.wrap .i64 (n35+(1:Int))) h38
 else none
 else next_w1_0 true (IntKind.wrap .i64 (n35+(1:Int))) h36
 else c42 p12 (PV.list [(PV.int 0)]) n5 h36 fun b39 h40 =>
 bif ((b39==b34)==true) then
 c41 p12 (PV.list [(PV.int 0)]) n5 h40 fun b41 h42 =>
 c42 p12 (PV.list [(PV.int 1)]) n5 h42 fun b43 h44 =>
 bif ((b41==b43)==true) then
 c41 p12 (PV.list [(PV.int 1)]) n5 h44 fun b45 h46 =>
 c41 p12 (PV.list []) n5 h46 fun b47 h48 =>
 bif ((b45==b47)==true) then
 c41 p12 (PV.list []) n5 h48 fun b49 h50 =>
 bif ((!b4)==false) then
 bif ((b49==(decide (n5=(List.length (PV.els p3):Int))))==true) then
 c42 p12 (PV.list []) n5 h50 fun b51 h52 =>
 ret0 (b51==b34)
 else ret0 false
 else bif ((b49==true)==true) then
 c42 p12 (PV.list []) n5 h50 fun b53 h54 =>
 ret0 (b53==b34)
 else ret0 false
 else ret0 false
 else ret0 false
 else ret0 false

theorem f11_w1b0_mem (k:Nat)(c16:PV→(Int→R)→R)(c28:PV→(Bool→R)→R)(c35:(Bool→R)→R)(c36:PV→PV→(PV→R)→R)(c39:PV→PV→Bool→(List HE)→(PV→Int→(List HE)→R)→R)(c41:PV→PV→Int→(List HE)→(Bool→(List HE)→R)→R)(c42:PV→PV→Int→(List HE)→(Bool→(List HE)→R)→R)(c43:PV→Int→(Bool→R)→R)(c44:PV→PV→Int→(PV→R)→R)(retF:Bool→R)(NX_w1:St→R)(p3:PV)(b4:Bool)(n5:Int)(p12:PV)(p15:PV)(b34:Bool)(n35:Int)(h36:List HE):exec (f11_E k c16 c28 c35 c36 c39 c41 c42 c43 c44) f11_cw1 (purgeK (f11_E k c16 c28 c35 c36 c39 c41 c42 c43 c44) f11_cw1 (loopK NX_w1 (kont (f11_E k c16 c28 c35 c36 c39 c41 c42 c43 c44) f11_code [1,1,1,1,1,1,1,1,0,1,0] (endK (f11_E k c16 c28 c35 c36 c39 c41 c42 c43 c44) Try.f11 [] f11_un retF)))) (f11_hw1_0 p3 b4 n5 p12 p15 b34 n35 h36)=f11_w1b0 c16 c28 c35 c36 c39 c41 c42 c43 c44 (fun y0=>retF y0) (fun b34 n35 h36=>NX_w1 (f11_hw1_0 p3 b4 n5 p12 p15 b34 n35 h36)) p3 b4 n5 p12 p15 b34 n35 h36:=by kernel_rfl

noncomputable def f11_w1b0N (k:Nat)(c16:PV→(Int→R)→R)(c28:PV→(Bool→R)→R)(c35:(Bool→R)→R)(c36:PV→PV→(PV→R)→R)(c39:PV→PV→Bool→(List HE)→(PV→Int→(List HE)→R)→R)(c41:PV→PV→Int→(List HE)→(Bool→(List HE)→R)→R)(c42:PV→PV→Int→(List HE)→(Bool→(List HE)→R)→R)(c43:PV→Int→(Bool→R)→R)(c44:PV→PV→Int→(PV→R)→R)(ret0:Bool→R)(next_w1_0:Bool→Int→(List HE)→R)(p3:PV)(b4:Bool)(n5:Int)(p12:PV)(p15:PV)(b34:Bool)(n35:Int)(h36:List HE):R :=
 f11_w1b0 c16 c28 c35 c36 c39 c41 c42 c43 c44 ret0 next_w1_0 p3 b4 n5 p12 p15 b34 n35 h36
theorem f11_w1b0_eq (k:Nat)(c16:PV→(Int→R)→R)(c28:PV→(Bool→R)→R)(c35:(Bool→R)→R)(c36:PV→PV→(PV→R)→R)(c39:PV→PV→Bool→(List HE)→(PV→Int→(List HE)→R)→R)(c41:PV→PV→Int→(List HE)→(Bool→(List HE)→R)→R)(c42:PV→PV→Int→(List HE)→(Bool→(List HE)→R)→R)(c43:PV→Int→(Bool→R)→R)(c44:PV→PV→Int→(PV→R)→R)(retF:Bool→R)(NX_w1:St→R)(p3:PV)(b4:Bool)(n5:Int)(p12:PV)(p15:PV)(b34:Bool)(n35:Int)(h36:List HE):exec (f11_E k c16 c28 c35 c36 c39 c41 c42 c43 c44) f11_cw1 (purgeK (f11_E k c16 c28 c35 c36 c39 c41 c42 c43 c44) f11_cw1 (loopK NX_w1 (kont (f11_E k c16 c28 c35 c36 c39 c41 c42 c43 c44) f11_code [1,1,1,1,1,1,1,1,0,1,0] (endK (f11_E k c16 c28 c35 c36 c39 c41 c42 c43 c44) Try.f11 [] f11_un retF)))) (f11_hw1_0 p3 b4 n5 p12 p15 b34 n35 h36)=f11_w1b0N k c16 c28 c35 c36 c39 c41 c42 c43 c44 (fun y0=>retF y0) (fun b34 n35 h36=>NX_w1 (f11_hw1_0 p3 b4 n5 p12 p15 b34 n35 h36)) p3 b4 n5 p12 p15 b34 n35 h36 :=
 (f11_w1b0_mem k c16 c28 c35 c36 c39 c41 c42 c43 c44 retF NX_w1 p3 b4 n5 p12 p15 b34 n35 h36)

noncomputable def f11_w1B (k:Nat)(c16:PV→(Int→R)→R)(c28:PV→(Bool→R)→R)(c35:(Bool→R)→R)(c36:PV→PV→(PV→R)→R)(c39:PV→PV→Bool→(List HE)→(PV→Int→(List HE)→R)→R)(c41:PV→PV→Int→(List HE)→(Bool→(List HE)→R)→R)(c42:PV→PV→Int→(List HE)→(Bool→(List HE)→R)→R)(c43:PV→Int→(Bool→R)→R)(c44:PV→PV→Int→(PV→R)→R)(ret0:Bool→R)(p3:PV)(b4:Bool)(n5:Int)(p12:PV)(p15:PV)(nx:Bool × Int × (List HE)→R):Bool × Int × (List HE)→R:=(fun s=>f11_w1b0N k c16 c28 c35 c36 c39 c41 c42 c43 c44 ret0 (fun b34 n35 h36=>nx (b34,n35,h36)) p3 b4 n5 p12 p15 s.1 s.2.1 s.2.2)
noncomputable def f11_w1N (k:Nat)(c16:PV→(Int→R)→R)(c28:PV→(Bool→R)→R)(c35:(Bool→R)→R)(c36:PV→PV→(PV→R)→R)(c39:PV→PV→Bool→(List HE)→(PV→Int→(List HE)→R)→R)(c41:PV→PV→Int→(List HE)→(Bool→(List HE)→R)→R)(c42:PV→PV→Int→(List HE)→(Bool→(List HE)→R)→R)(c43:PV→Int→(Bool→R)→R)(c44:PV→PV→Int→(PV→R)→R)(ret0:Bool→R)(p3:PV)(b4:Bool)(n5:Int)(p12:PV)(p15:PV)(b34:Bool)(n35:Int)(h36:List HE):R:=loopR (f11_w1B k c16 c28 c35 c36 c39 c41 c42 c43 c44 ret0 p3 b4 n5 p12 p15) k (b34,n35,h36)
theorem f11_w1_eq (k:Nat)(c16:PV→(Int→R)→R)(c28:PV→(Bool→R)→R)(c35:(Bool→R)→R)(c36:PV→PV→(PV→R)→R)(c39:PV→PV→Bool→(List HE)→(PV→Int→(List HE)→R)→R)(c41:PV→PV→Int→(List HE)→(Bool→(List HE)→R)→R)(c42:PV→PV→Int→(List HE)→(Bool→(List HE)→R)→R)(c43:PV→Int→(Bool→R)→R)(c44:PV→PV→Int→(PV→R)→R)(retF:Bool→R)(p3:PV)(b4:Bool)(n5:Int)(p12:PV)(p15:PV)(b34:Bool)(n35:Int)(h36:List HE):f11_w1A k c16 c28 c35 c36 c39 c41 c42 c43 c44 retF p3 b4 n5 p12 p15 b34 n35 h36=f11_w1N k c16 c28 c35 c36 c39 c41 c42 c43 c44 (fun y0=>retF y0) p3 b4 n5 p12 p15 b34 n35 h36 :=
 Eq.mp (by kernel_rfl) (loop_sim (E:=(f11_E k c16 c28 c35 c36 c39 c41 c42 c43 c44)) (c:=f11_cw1) (K:=(kont (f11_E k c16 c28 c35 c36 c39 c41 c42 c43 c44) f11_code [1,1,1,1,1,1,1,1,0,1,0] (endK (f11_E k c16 c28 c35 c36 c39 c41 c42 c43 c44) Try.f11 [] f11_un retF))) (S:=Bool × Int × (List HE)) (fun s=>f11_hw1_0 p3 b4 n5 p12 p15 s.1 s.2.1 s.2.2) (f11_w1B k c16 c28 c35 c36 c39 c41 c42 c43 c44 (fun y0=>retF y0) p3 b4 n5 p12 p15) (fun NX s=>by
  exact Eq.mp (by kernel_rfl) (f11_w1b0_eq k c16 c28 c35 c36 c39 c41 c42 c43 c44 retF NX p3 b4 n5 p12 p15 s.1 s.2.1 s.2.2)) k (b34,n35,h36))

noncomputable def f11_e (c16:PV→(Int→R)→R)(c28:PV→(Bool→R)→R)(c35:(Bool→R)→R)(c36:PV→PV→(PV→R)→R)(c39:PV→PV→Bool→(List HE)→(PV→Int→(List HE)→R)→R)(c41:PV→PV→Int→(List HE)→(Bool→(List HE)→R)→R)(c42:PV→PV→Int→(List HE)→(Bool→(List HE)→R)→R)(c43:PV→Int→(Bool→R)→R)(c44:PV→PV→Int→(PV→R)→R)(ret0:Bool→R)(w1:PV→PV→Bool→Int→(List HE)→R)(p1:PV)(p2:PV)(p3:PV)(b4:Bool)(n5:Int):R :=
 c35 fun b6 =>
 bif (!b6) then
 ret0 false
 else c36 p1 p2 fun p7 =>
 c43 p1 30 fun b8 =>
 bif (b8==false) then
 c43 p2 30 fun b9 =>
 bif (b9==false) then
 c28 p7 fun b10 =>
 bif ((!b10)==false) then
 c16 p7 fun n11 =>
 bif ((decide ((50:Int) < n11))==false) then
 bif ((decide ((8:Int) < (List.length (PV.els p3):Int)))==false) then
 bif ((decide (n5 < (0:Int)))==false) then
 bif (decide ((List.length (PV.els p3):Int) < n5)) then
 ret0 true
 else c39 p7 p3 b4 ([]:List HE) fun p12 n13 h14 =>
 bif ((!(decide (n13=(0:Int))))==false) then
 bif (PV.isNil p12) then
 ret0 false
 else c44 p1 p3 n5 fun p15 =>
 w1 p12 p15 false 0 h14
 else ret0 false
 else ret0 true
 else ret0 true
 else ret0 true
 else ret0 true
 else ret0 true
 else ret0 true

theorem f11_e_mem (k:Nat)(c16:PV→(Int→R)→R)(c28:PV→(Bool→R)→R)(c35:(Bool→R)→R)(c36:PV→PV→(PV→R)→R)(c39:PV→PV→Bool→(List HE)→(PV→Int→(List HE)→R)→R)(c41:PV→PV→Int→(List HE)→(Bool→(List HE)→R)→R)(c42:PV→PV→Int→(List HE)→(Bool→(List HE)→R)→R)(c43:PV→Int→(Bool→R)→R)(c44:PV→PV→Int→(PV→R)→R)(retF:Bool→R)(p1:PV)(p2:PV)(p3:PV)(b4:Bool)(n5:Int):exec (f11_E k c16 c28 c35 c36 c39 c41 c42 c43 c44) f11_code (endK (f11_E k c16 c28 c35 c36 c39 c41 c42 c43 c44) Try.f11 [] f11_un retF) ⟨[.val 27 p1,.val 27 p2,.val 28 p3,.bool b4,.int .i64 n5,.undef,.undef,.undef,.undef,.undef,.undef,.undef,.undef,.undef,.undef,.undef,.undef,.undef,.undef,.undef,.undef,.undef,.undef,.undef,.undef,.undef,.undef,.undef,.undef,.undef,.undef,.undef,.undef,.undef,.undef,.undef,.undef,.undef,.undef,.undef,.undef,.undef,.undef,.undef,.undef,.undef,.undef,.undef,.undef,.undef,.undef,.undef,.undef,.undef,.undef,.undef,.undef,.undef,.undef,.undef,.undef,.undef,.undef,.undef,.undef,.undef,.undef,.undef,.undef,.undef,.undef,.undef,.undef,.undef,.undef,.undef,.undef,.undef,.undef,.undef,.undef,.undef,.undef,.undef,.undef,.undef,.undef,.undef,.undef,.undef,.undef,.undef,.undef,.undef,.undef,.undef,.undef,.undef,.undef,.undef,.undef,.undef,.undef,.undef,.undef,.undef,.undef,.undef,.undef,.undef,.undef,.undef,.undef,.undef,.undef,.undef,.undef,.undef,.undef,.undef,.undef,.undef,.undef,.undef,.undef,.undef,.undef,.undef,.undef,.undef,.undef,.undef,.undef,.undef],[(1000000000000,.hp ([]:List HE))]⟩=f11_e c16 c28 c35 c36 c39 c41 c42 c43 c44 (fun y0=>retF y0) (fun p12 p15 b34 n35 h36=>f11_w1A k c16 c28 c35 c36 c39 c41 c42 c43 c44 retF p3 b4 n5 p12 p15 b34 n35 h36) p1 p2 p3 b4 n5:=by kernel_rfl

noncomputable def f11_N (k:Nat)(c16:PV→(Int→R)→R)(c28:PV→(Bool→R)→R)(c35:(Bool→R)→R)(c36:PV→PV→(PV→R)→R)(c39:PV→PV→Bool→(List HE)→(PV→Int→(List HE)→R)→R)(c41:PV→PV→Int→(List HE)→(Bool→(List HE)→R)→R)(c42:PV→PV→Int→(List HE)→(Bool→(List HE)→R)→R)(c43:PV→Int→(Bool→R)→R)(c44:PV→PV→Int→(PV→R)→R)(ret0:Bool→R)(p1:PV)(p2:PV)(p3:PV)(b4:Bool)(n5:Int):R :=
 f11_e c16 c28 c35 c36 c39 c41 c42 c43 c44 ret0 (fun p12 p15 b34 n35 h36=>f11_w1N k c16 c28 c35 c36 c39 c41 c42 c43 c44 ret0 p3 b4 n5 p12 p15 b34 n35 h36) p1 p2 p3 b4 n5
theorem f11_eq (k:Nat)(c16:PV→(Int→R)→R)(c28:PV→(Bool→R)→R)(c35:(Bool→R)→R)(c36:PV→PV→(PV→R)→R)(c39:PV→PV→Bool→(List HE)→(PV→Int→(List HE)→R)→R)(c41:PV→PV→Int→(List HE)→(Bool→(List HE)→R)→R)(c42:PV→PV→Int→(List HE)→(Bool→(List HE)→R)→R)(c43:PV→Int→(Bool→R)→R)(c44:PV→PV→Int→(PV→R)→R)(retF:Bool→R)(p1:PV)(p2:PV)(p3:PV)(b4:Bool)(n5:Int):exec (f11_E k c16 c28 c35 c36 c39 c41 c42 c43 c44) f11_code (endK (f11_E k c16 c28 c35 c36 c39 c41 c42 c43 c44) Try.f11 [] f11_un retF) ⟨[.val 27 p1,.val 27 p2,.val 28 p3,.bool b4,.int .i64 n5,.undef,.undef,.undef,.undef,.undef,.undef,.undef,.undef,.undef,.undef,.undef,.undef,.undef,.undef,.undef,.undef,.undef,.undef,.undef,.undef,.undef,.undef,.undef,.undef,.undef,.undef,.undef,.undef,.undef,.undef,.undef,.undef,.undef,.undef,.undef,.undef,.undef,.undef,.undef,.undef,.undef,.undef,.undef,.undef,.undef,.undef,.undef,.undef,.undef,.undef,.undef,.undef,.undef,.undef,.undef,.undef,.undef,.undef,.undef,.undef,.undef,.undef,.undef,.undef,.undef,.undef,.undef,.undef,.undef,.undef,.undef,.undef,.undef,.undef,.undef,.undef,.undef,.undef,.undef,.undef,.undef,.undef,.undef,.undef,.undef,.undef,.undef,.undef,.undef,.undef,.undef,.undef,.undef,.undef,.undef,.undef,.undef,.undef,.undef,.undef,.undef,.undef,.undef,.undef,.undef,.undef,.undef,.undef,.undef,.undef,.undef,.undef,.undef,.undef,.undef,.undef,.undef,.undef,.undef,.undef,.undef,.undef,.undef,.undef,.undef,.undef,.undef,.undef,.undef],[(1000000000000,.hp ([]:List HE))]⟩=f11_N k c16 c28 c35 c36 c39 c41 c42 c43 c44 (fun y0=>retF y0) p1 p2 p3 b4 n5 :=
 (f11_e_mem k c16 c28 c35 c36 c39 c41 c42 c43 c44 retF p1 p2 p3 b4 n5).trans (by rw [show (fun p12 p15 b34 n35 h36=>f11_w1A k c16 c28 c35 c36 c39 c41 c42 c43 c44 retF p3 b4 n5 p12 p15 b34 n35 h36)=(fun p12 p15 b34 n35 h36=>f11_w1N k c16 c28 c35 c36 c39 c41 c42 c43 c44 (fun y0=>retF y0) p3 b4 n5 p12 p15 b34 n35 h36) from funext fun p12=>funext fun p15=>funext fun b34=>funext fun n35=>funext fun h36=>f11_w1_eq k c16 c28 c35 c36 c39 c41 c42 c43 c44 retF p3 b4 n5 p12 p15 b34 n35 h36];rfl)

noncomputable def G11:Nat→PV→PV→PV→Bool→Int→(Bool→R)→R
 | 0,_,_,_,_,_,_=>none
 | k+1,p1,p2,p3,b4,n5,ret0=>f11_N k (G16 k) (G28 k) (G35 k) (G36 k) (G39 k) (G41 k) (G42 k) (G43 k) (G44 k) ret0 p1 p2 p3 b4 n5
theorem S11:∀ k,Snd Try.prog 11 f11_I f11_O (fun x ret=>G11 k x.1 x.2.1 x.2.2.1 x.2.2.2.1 x.2.2.2.2 (fun y0=>ret y0))
 | 0=>snd_none
 | k+1=>snd_step (E:=f11_E k (G16 k) (G28 k) (G35 k) (G36 k) (G39 k) (G41 k) (G42 k) (G43 k) (G44 k)) rfl laidOut noNums (orc_ok (S16 k).o f16_D_ok (orc_ok (S28 k).o f28_D_ok (orc_ok (S35 k).o f35_D_ok (orc_ok (S36 k).o f36_D_ok (orc_ok (S39 k).o f39_D_ok (orc_ok (S41 k).o f41_D_ok (orc_ok (S42 k).o f42_D_ok (orc_ok (S43 k).o f43_D_ok (orc_ok (S44 k).o f44_D_ok orc0_ok))))))))) (f:=11) (fn:=Try.f11) (code:=f11_code) Try.func11 (by kernel_rfl) (drawsOk_of laidOut (orc_ok (S16 k).o f16_D_ok (orc_ok (S28 k).o f28_D_ok (orc_ok (S35 k).o f35_D_ok (orc_ok (S36 k).o f36_D_ok (orc_ok (S39 k).o f39_D_ok (orc_ok (S41 k).o f41_D_ok (orc_ok (S42 k).o f42_D_ok (orc_ok (S43 k).o f43_D_ok (orc_ok (S44 k).o f44_D_ok orc0_ok))))))))) mixed (by kernel_rfl)) f11_un f11_un_ok [] (fun _=>rfl)
   (fun x ret=>f11_eq k (G16 k) (G28 k) (G35 k) (G36 k) (G39 k) (G41 k) (G42 k) (G43 k) (G44 k) ret x.1 x.2.1 x.2.2.1 x.2.2.2.1 x.2.2.2.2)

end Go.Proofs.Ythdonefmfgnilaa
