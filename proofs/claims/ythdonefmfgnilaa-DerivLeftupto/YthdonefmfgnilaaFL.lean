/- Functions of the program as Lean functions, each tied to the program by the kernel: catchpolelaw16.DerivLeft -/
import Derived.Test.YthdonefmfgnilaaXC
import Derived.Test.YthdonefmfgnilaaProg
import Derived.KernelRfl
set_option linter.unusedVariables false
set_option maxRecDepth 100000
namespace Go.Proofs.Ythdonefmfgnilaa
open Go Go.X
theorem laidOut:laidOutB Try.prog=true:=by kernel_rfl
theorem noNums:noNum Try.prog=true:=by kernel_rfl
theorem mixed:Try.prog.follows .mixedOrders=true:=by kernel_rfl
noncomputable def ownPars:FuncId→Nat→Bool:=fun f i=>(f==81&&i==0)
noncomputable def hpFs:FuncId→Bool:=fun f=>f==39 || f==66

/- catchpole/byteset.Of -/
noncomputable def f33_I:PV→List SV × Obs:=fun x=>([.val 28 x],[])
noncomputable def f33_D:List SV→Obs→Option (PV)
 | [.val 28 p1],[]=>some p1
 | _,_=>none
theorem f33_D_ok (args:List SV)(B:Obs)(x:PV)(h:f33_D args B=some x):f33_I x=(args,B):=by
 unfold f33_D at h
 split at h
 ·injection h with h;subst h;rfl
 ·cases h
noncomputable def f33_O:PV→Out:=(fun y=>([.val 24 y],[]))
noncomputable def f33_un:Out→Option (PV)
 | ([.val 24 y0],[])=>some y0
 | _=>none
theorem f33_un_ok (o:Out)(y:PV)(h:f33_un o=some y):o=f33_O y:=by
 unfold f33_un at h
 split at h
 ·injection h with h;subst h;rfl
 ·cases h
noncomputable def f33_msk:Nat→Option (List Nat):=fun key=>bif key==9 then some [2,3,6,7,8] else none
noncomputable def f33_C:Oracle:=orc0
noncomputable def f33_E (k:Nat):Env:={ P:=Try.prog,nilOwn:=fun d=>false,fldOwn:=fun d i=>false,ownPar:=ownPars,ownRet:=false,hpD:=fun d=>false,hpF:=hpFs,hpNew:=false,mask:=f33_msk,fuel:=k,C:=f33_C }
noncomputable def f33_code:Code:=Try.f33.body.getD .skip
noncomputable def f33_cw1:Code:=subC f33_code [1,1,0,1,0,0]
noncomputable def f33_hw1_0 (p1:PV)(n5:Int)(p6:PV):St:=⟨[.dead,.dead,.ptr 2 [],.ptr 3 [],.dead,.dead,.val 28 p1,.int .i64 (List.length (PV.els p1):Int),.int .i64 n5,.dead,.dead,.dead,.dead,.dead,.dead,.dead,.dead,.dead,.dead,.dead,.dead,.dead,.dead],[(2,.box 24 (.val 24 (PV.agg [(PV.int 0),(PV.int 0),(PV.int 0),(PV.int 0)]))),(3,.box 24 (.val 24 p6))]⟩
noncomputable def f33_w1A (k:Nat)(retF:PV→R)(p1:PV)(n5:Int)(p6:PV):R:=loopM (f33_E k) f33_cw1 (kont (f33_E k) f33_code [1,1,0,1,0] (endK (f33_E k) Try.f33 [] f33_un retF)) k (f33_hw1_0 p1 n5 p6)
noncomputable def f33_w1b0 (ret0:PV→R)(next_w1_0:Int→PV→R)(p1:PV)(n5:Int)(p6:PV):R :=
 bif (decide (n5 < (List.length (PV.els p1):Int))) then
 bif (true&&decide ((0:Int)≤n5)&&decide (n5 < (List.length (PV.els p1):Int))) then
 bif (true&&decide ((0:Int)≤(IntKind.wrap .u8 (Int.tdiv (PV.num (List.getD (PV.els p1) (n5).toNat PV.nil)) 64)))&&decide ((IntKind.wrap .u8 (Int.tdiv (PV.num (List.getD (PV.els p1) (n5).toNat PV.nil)) 64)) < 4)) then
 let n7:Int:=(PV.num (PV.fld p6 ((IntKind.wrap .u8 (Int.tdiv (PV.num (List.getD (PV.els p1) (n5).toNat PV.nil)) 64))).toNat))
 bif (decide ((0:Int)≤(Int.tmod (PV.num (List.getD (PV.els p1) (n5).toNat PV.nil)) 64))) then
 let n8:Int:=(IntKind.wrap .u64 ((1:Int) * 2 ^ (min ((Int.tmod (PV.num (List.getD (PV.els p1) (n5).toNat PV.nil)) 64)).toNat 64)))
 bif (true&&decide ((0:Int)≤(IntKind.wrap .u8 (Int.tdiv (PV.num (List.getD (PV.els p1) (n5).toNat PV.nil)) 64)))&&decide ((IntKind.wrap .u8 (Int.tdiv (PV.num (List.getD (PV.els p1) (n5).toNat PV.nil)) 64)) < 4)) then
 let p9:PV:=(PV.agg (List.set (PV.flds p6) ((IntKind.wrap .u8 (Int.tdiv (PV.num (List.getD (PV.els p1) (n5).toNat PV.nil)) 64))).toNat (PV.int (intBit .or .u64 n7 n8))))
 next_w1_0 (IntKind.wrap .i64 (n5+(1:Int))) p9
 else none
 else none
 else none
 else none
 else ret0 p6

theorem f33_w1b0_mem (k:Nat)(retF:PV→R)(NX_w1:St→R)(p1:PV)(n5:Int)(p6:PV):exec (f33_E k) f33_cw1 (purgeK (f33_E k) f33_cw1 (loopK NX_w1 (kont (f33_E k) f33_code [1,1,0,1,0] (endK (f33_E k) Try.f33 [] f33_un retF)))) (f33_hw1_0 p1 n5 p6)=f33_w1b0 (fun y0=>retF y0) (fun n5 p6=>NX_w1 (f33_hw1_0 p1 n5 p6)) p1 n5 p6:=by kernel_rfl

noncomputable def f33_w1b0N (k:Nat)(ret0:PV→R)(next_w1_0:Int→PV→R)(p1:PV)(n5:Int)(p6:PV):R :=
 f33_w1b0 ret0 next_w1_0 p1 n5 p6
theorem f33_w1b0_eq (k:Nat)(retF:PV→R)(NX_w1:St→R)(p1:PV)(n5:Int)(p6:PV):exec (f33_E k) f33_cw1 (purgeK (f33_E k) f33_cw1 (loopK NX_w1 (kont (f33_E k) f33_code [1,1,0,1,0] (endK (f33_E k) Try.f33 [] f33_un retF)))) (f33_hw1_0 p1 n5 p6)=f33_w1b0N k (fun y0=>retF y0) (fun n5 p6=>NX_w1 (f33_hw1_0 p1 n5 p6)) p1 n5 p6 :=
 (f33_w1b0_mem k retF NX_w1 p1 n5 p6)

noncomputable def f33_w1B (k:Nat)(ret0:PV→R)(p1:PV)(nx:Int × PV→R):Int × PV→R:=(fun s=>f33_w1b0N k ret0 (fun n5 p6=>nx (n5,p6)) p1 s.1 s.2)
noncomputable def f33_w1N (k:Nat)(ret0:PV→R)(p1:PV)(n5:Int)(p6:PV):R:=loopR (f33_w1B k ret0 p1) k (n5,p6)
theorem f33_w1_eq (k:Nat)(retF:PV→R)(p1:PV)(n5:Int)(p6:PV):f33_w1A k retF p1 n5 p6=f33_w1N k (fun y0=>retF y0) p1 n5 p6 :=
 Eq.mp (by kernel_rfl) (loop_sim (E:=(f33_E k)) (c:=f33_cw1) (K:=(kont (f33_E k) f33_code [1,1,0,1,0] (endK (f33_E k) Try.f33 [] f33_un retF))) (S:=Int × PV) (fun s=>f33_hw1_0 p1 s.1 s.2) (f33_w1B k (fun y0=>retF y0) p1) (fun NX s=>by
  exact Eq.mp (by kernel_rfl) (f33_w1b0_eq k retF NX p1 s.1 s.2)) k (n5,p6))

noncomputable def f33_e (ret0:PV→R)(w1:Int→PV→R)(p1:PV):R :=
 w1 0 (PV.agg [(PV.int 0),(PV.int 0),(PV.int 0),(PV.int 0)])

theorem f33_e_mem (k:Nat)(retF:PV→R)(p1:PV):exec (f33_E k) f33_code (endK (f33_E k) Try.f33 [] f33_un retF) ⟨[.val 28 p1,.undef,.undef,.undef,.undef,.undef,.undef,.undef,.undef,.undef,.undef,.undef,.undef,.undef,.undef,.undef,.undef,.undef,.undef,.undef,.undef,.undef,.undef],[]⟩=f33_e (fun y0=>retF y0) (fun n5 p6=>f33_w1A k retF p1 n5 p6) p1:=by kernel_rfl

noncomputable def f33_N (k:Nat)(ret0:PV→R)(p1:PV):R :=
 f33_e ret0 (fun n5 p6=>f33_w1N k ret0 p1 n5 p6) p1
theorem f33_eq (k:Nat)(retF:PV→R)(p1:PV):exec (f33_E k) f33_code (endK (f33_E k) Try.f33 [] f33_un retF) ⟨[.val 28 p1,.undef,.undef,.undef,.undef,.undef,.undef,.undef,.undef,.undef,.undef,.undef,.undef,.undef,.undef,.undef,.undef,.undef,.undef,.undef,.undef,.undef,.undef],[]⟩=f33_N k (fun y0=>retF y0) p1 :=
 (f33_e_mem k retF p1).trans (by rw [show (fun n5 p6=>f33_w1A k retF p1 n5 p6)=(fun n5 p6=>f33_w1N k (fun y0=>retF y0) p1 n5 p6) from funext fun n5=>funext fun p6=>f33_w1_eq k retF p1 n5 p6];rfl)

noncomputable def G33:Nat→PV→(PV→R)→R
 | 0,_,_=>none
 | k+1,p1,ret0=>f33_N k  ret0 p1
theorem S33:∀ k,Snd Try.prog 33 f33_I f33_O (fun x ret=>G33 k x (fun y0=>ret y0))
 | 0=>snd_none
 | k+1=>snd_step (E:=f33_E k ) rfl laidOut noNums orc0_ok (f:=33) (fn:=Try.f33) (code:=f33_code) Try.func33 (by kernel_rfl) (drawsOk_of laidOut orc0_ok mixed (by kernel_rfl)) f33_un f33_un_ok [] (fun _=>rfl)
   (fun x ret=>f33_eq k  ret x)

/- catchpole/catchpolelaw16.ch -/
noncomputable def f20_I:PV→List SV × Obs:=fun x=>([.val 28 x],[])
noncomputable def f20_D:List SV→Obs→Option (PV)
 | [.val 28 p1],[]=>some p1
 | _,_=>none
theorem f20_D_ok (args:List SV)(B:Obs)(x:PV)(h:f20_D args B=some x):f20_I x=(args,B):=by
 unfold f20_D at h
 split at h
 ·injection h with h;subst h;rfl
 ·cases h
noncomputable def f20_O:PV→Out:=(fun y=>([.val 27 y],[]))
noncomputable def f20_un:Out→Option (PV)
 | ([.val 27 y0],[])=>some y0
 | _=>none
theorem f20_un_ok (o:Out)(y:PV)(h:f20_un o=some y):o=f20_O y:=by
 unfold f20_un at h
 split at h
 ·injection h with h;subst h;rfl
 ·cases h
noncomputable def f20_msk:Nat→Option (List Nat):=fun key=> none
noncomputable def f20_C (c33:PV→(PV→R)→R):Oracle:=orc 33 f33_D f33_O (fun x ret=>c33 x (fun y0=>ret y0)) <| orc0
noncomputable def f20_E (k:Nat)(c33:PV→(PV→R)→R):Env:={ P:=Try.prog,nilOwn:=fun d=>false,fldOwn:=fun d i=>false,ownPar:=ownPars,ownRet:=false,hpD:=fun d=>false,hpF:=hpFs,hpNew:=false,mask:=f20_msk,fuel:=k,C:=f20_C c33 }
noncomputable def f20_code:Code:=Try.f20.body.getD .skip
noncomputable def f20_e (c33:PV→(PV→R)→R)(ret0:PV→R)(p1:PV):R :=
 c33 p1 fun p2 =>
 ret0 (PV.agg [(PV.int 2),p2,(PV.int 0),(PV.list [])])

theorem f20_e_mem (k:Nat)(c33:PV→(PV→R)→R)(retF:PV→R)(p1:PV):exec (f20_E k c33) f20_code (endK (f20_E k c33) Try.f20 [] f20_un retF) ⟨[.val 28 p1,.undef,.undef,.undef,.undef,.undef],[]⟩=f20_e c33 (fun y0=>retF y0) p1:=by kernel_rfl

noncomputable def f20_N (k:Nat)(c33:PV→(PV→R)→R)(ret0:PV→R)(p1:PV):R :=
 f20_e c33 ret0 p1
theorem f20_eq (k:Nat)(c33:PV→(PV→R)→R)(retF:PV→R)(p1:PV):exec (f20_E k c33) f20_code (endK (f20_E k c33) Try.f20 [] f20_un retF) ⟨[.val 28 p1,.undef,.undef,.undef,.undef,.undef],[]⟩=f20_N k c33 (fun y0=>retF y0) p1 :=
 (f20_e_mem k c33 retF p1)

noncomputable def G20:Nat→PV→(PV→R)→R
 | 0,_,_=>none
 | k+1,p1,ret0=>f20_N k (G33 k) ret0 p1
theorem S20:∀ k,Snd Try.prog 20 f20_I f20_O (fun x ret=>G20 k x (fun y0=>ret y0))
 | 0=>snd_none
 | k+1=>snd_step (E:=f20_E k (G33 k)) rfl laidOut noNums (orc_ok (S33 k).o f33_D_ok orc0_ok) (f:=20) (fn:=Try.f20) (code:=f20_code) Try.func20 (by kernel_rfl) (drawsOk_of laidOut (orc_ok (S33 k).o f33_D_ok orc0_ok) mixed (by kernel_rfl)) f20_un f20_un_ok [] (fun _=>rfl)
   (fun x ret=>f20_eq k (G33 k) ret x)

/- catchpole/catchpolelaw16.seq -/
noncomputable def f19_I:PV × PV→List SV × Obs:=fun x=>([.val 27 x.1,.val 27 x.2],[])
noncomputable def f19_D:List SV→Obs→Option (PV × PV)
 | [.val 27 p1,.val 27 p2],[]=>some (p1,p2)
 | _,_=>none
theorem f19_D_ok (args:List SV)(B:Obs)(x:PV × PV)(h:f19_D args B=some x):f19_I x=(args,B):=by
 unfold f19_D at h
 split at h
 ·injection h with h;subst h;rfl
 ·cases h
noncomputable def f19_O:PV→Out:=(fun y=>([.val 27 y],[]))
noncomputable def f19_un:Out→Option (PV)
 | ([.val 27 y0],[])=>some y0
 | _=>none
theorem f19_un_ok (o:Out)(y:PV)(h:f19_un o=some y):o=f19_O y:=by
 unfold f19_un at h
 split at h
 ·injection h with h;subst h;rfl
 ·cases h
noncomputable def f19_msk:Nat→Option (List Nat):=fun key=> none
noncomputable def f19_C:Oracle:=orc0
noncomputable def f19_E (k:Nat):Env:={ P:=Try.prog,nilOwn:=fun d=>false,fldOwn:=fun d i=>false,ownPar:=ownPars,ownRet:=false,hpD:=fun d=>false,hpF:=hpFs,hpNew:=false,mask:=f19_msk,fuel:=k,C:=f19_C }
noncomputable def f19_code:Code:=Try.f19.body.getD .skip
noncomputable def f19_e (ret0:PV→R)(p1:PV)(p2:PV):R :=
 ret0 (PV.agg [(PV.int 3),(PV.agg [(PV.int 0),(PV.int 0),(PV.int 0),(PV.int 0)]),(PV.int 0),(PV.list [p1,p2])])

theorem f19_e_mem (k:Nat)(retF:PV→R)(p1:PV)(p2:PV):exec (f19_E k) f19_code (endK (f19_E k) Try.f19 [] f19_un retF) ⟨[.val 27 p1,.val 27 p2,.undef,.undef,.undef,.undef,.undef,.undef,.undef],[]⟩=f19_e (fun y0=>retF y0) p1 p2:=by kernel_rfl

noncomputable def f19_N (k:Nat)(ret0:PV→R)(p1:PV)(p2:PV):R :=
 f19_e ret0 p1 p2
theorem f19_eq (k:Nat)(retF:PV→R)(p1:PV)(p2:PV):exec (f19_E k) f19_code (endK (f19_E k) Try.f19 [] f19_un retF) ⟨[.val 27 p1,.val 27 p2,.undef,.undef,.undef,.undef,.undef,.undef,.undef],[]⟩=f19_N k (fun y0=>retF y0) p1 p2 :=
 (f19_e_mem k retF p1 p2)

noncomputable def G19:Nat→PV→PV→(PV→R)→R
 | 0,_,_,_=>none
 | k+1,p1,p2,ret0=>f19_N k  ret0 p1 p2
theorem S19:∀ k,Snd Try.prog 19 f19_I f19_O (fun x ret=>G19 k x.1 x.2 (fun y0=>ret y0))
 | 0=>snd_none
 | k+1=>snd_step (E:=f19_E k ) rfl laidOut noNums orc0_ok (f:=19) (fn:=Try.f19) (code:=f19_code) Try.func19 (by kernel_rfl) (drawsOk_of laidOut orc0_ok mixed (by kernel_rfl)) f19_un f19_un_ok [] (fun _=>rfl)
   (fun x ret=>f19_eq k  ret x.1 x.2)

/- catchpole/core.Size -/
noncomputable def f16_I:PV→List SV × Obs:=fun x=>([.val 27 x],[])
noncomputable def f16_D:List SV→Obs→Option (PV)
 | [.val 27 p1],[]=>some p1
 | _,_=>none
theorem f16_D_ok (args:List SV)(B:Obs)(x:PV)(h:f16_D args B=some x):f16_I x=(args,B):=by
 unfold f16_D at h
 split at h
 ·injection h with h;subst h;rfl
 ·cases h
noncomputable def f16_O:Int→Out:=(fun y=>([.int .i64 y],[]))
noncomputable def f16_un:Out→Option (Int)
 | ([.int .i64 y0],[])=>some y0
 | _=>none
theorem f16_un_ok (o:Out)(y:Int)(h:f16_un o=some y):o=f16_O y:=by
 unfold f16_un at h
 split at h
 ·injection h with h;subst h;rfl
 ·cases h
noncomputable def f16_msk:Nat→Option (List Nat):=fun key=>bif key==9 then some [3,7,8,9] else none
noncomputable def f16_C (c16:PV→(Int→R)→R):Oracle:=orc 16 f16_D f16_O (fun x ret=>c16 x (fun y0=>ret y0)) <| orc0
noncomputable def f16_E (k:Nat)(c16:PV→(Int→R)→R):Env:={ P:=Try.prog,nilOwn:=fun d=>false,fldOwn:=fun d i=>false,ownPar:=ownPars,ownRet:=false,hpD:=fun d=>false,hpF:=hpFs,hpNew:=false,mask:=f16_msk,fuel:=k,C:=f16_C c16 }
noncomputable def f16_code:Code:=Try.f16.body.getD .skip
noncomputable def f16_cw1:Code:=subC f16_code [1,1,0,1,0,0]
noncomputable def f16_hw1_0 (p1:PV)(n3:Int)(n4:Int):St:=⟨[.dead,.dead,.dead,.int .i64 n3,.dead,.dead,.dead,.val 25 (PV.fld p1 3),.int .i64 (List.length (PV.els (PV.fld p1 3)):Int),.int .i64 n4,.dead,.dead,.dead,.dead,.dead,.dead,.dead,.dead,.dead,.dead,.dead,.dead],[]⟩
noncomputable def f16_w1A (k:Nat)(c16:PV→(Int→R)→R)(retF:Int→R)(p1:PV)(n3:Int)(n4:Int):R:=loopM (f16_E k c16) f16_cw1 (kont (f16_E k c16) f16_code [1,1,0,1,0] (endK (f16_E k c16) Try.f16 [] f16_un retF)) k (f16_hw1_0 p1 n3 n4)
noncomputable def f16_w1b0 (c16:PV→(Int→R)→R)(ret0:Int→R)(next_w1_0:Int→Int→R)(p1:PV)(n3:Int)(n4:Int):R :=
 bif (decide (n4 < (List.length (PV.els (PV.fld p1 3)):Int))) then
 bif (true&&decide ((0:Int)≤n4)&&decide (n4 < (List.length (PV.els (PV.fld p1 3)):Int))) then
 bif (decide ((100000:Int)≤n3)) then
 ret0 (if (100000:Int) < n3 then 100000 else n3)
 else c16 (List.getD (PV.els (PV.fld p1 3)) (n4).toNat PV.nil) fun n5 =>
 next_w1_0 (IntKind.wrap .i64 (n3+n5)) (IntKind.wrap .i64 (n4+(1:Int)))
 else none
 else ret0 (if (100000:Int) < n3 then 100000 else n3)

theorem f16_w1b0_mem (k:Nat)(c16:PV→(Int→R)→R)(retF:Int→R)(NX_w1:St→R)(p1:PV)(n3:Int)(n4:Int):exec (f16_E k c16) f16_cw1 (purgeK (f16_E k c16) f16_cw1 (loopK NX_w1 (kont (f16_E k c16) f16_code [1,1,0,1,0] (endK (f16_E k c16) Try.f16 [] f16_un retF)))) (f16_hw1_0 p1 n3 n4)=f16_w1b0 c16 (fun y0=>retF y0) (fun n3 n4=>NX_w1 (f16_hw1_0 p1 n3 n4)) p1 n3 n4:=by kernel_rfl

noncomputable def f16_w1b0N (k:Nat)(c16:PV→(Int→R)→R)(ret0:Int→R)(next_w1_0:Int→Int→R)(p1:PV)(n3:Int)(n4:Int):R :=
 f16_w1b0 c16 ret0 next_w1_0 p1 n3 n4
theorem f16_w1b0_eq (k:Nat)(c16:PV→(Int→R)→R)(retF:Int→R)(NX_w1:St→R)(p1:PV)(n3:Int)(n4:Int):exec (f16_E k c16) f16_cw1 (purgeK (f16_E k c16) f16_cw1 (loopK NX_w1 (kont (f16_E k c16) f16_code [1,1,0,1,0] (endK (f16_E k c16) Try.f16 [] f16_un retF)))) (f16_hw1_0 p1 n3 n4)=f16_w1b0N k c16 (fun y0=>retF y0) (fun n3 n4=>NX_w1 (f16_hw1_0 p1 n3 n4)) p1 n3 n4 :=
 (f16_w1b0_mem k c16 retF NX_w1 p1 n3 n4)

noncomputable def f16_w1B (k:Nat)(c16:PV→(Int→R)→R)(ret0:Int→R)(p1:PV)(nx:Int × Int→R):Int × Int→R:=(fun s=>f16_w1b0N k c16 ret0 (fun n3 n4=>nx (n3,n4)) p1 s.1 s.2)
noncomputable def f16_w1N (k:Nat)(c16:PV→(Int→R)→R)(ret0:Int→R)(p1:PV)(n3:Int)(n4:Int):R:=loopR (f16_w1B k c16 ret0 p1) k (n3,n4)
theorem f16_w1_eq (k:Nat)(c16:PV→(Int→R)→R)(retF:Int→R)(p1:PV)(n3:Int)(n4:Int):f16_w1A k c16 retF p1 n3 n4=f16_w1N k c16 (fun y0=>retF y0) p1 n3 n4 :=
 Eq.mp (by kernel_rfl) (loop_sim (E:=(f16_E k c16)) (c:=f16_cw1) (K:=(kont (f16_E k c16) f16_code [1,1,0,1,0] (endK (f16_E k c16) Try.f16 [] f16_un retF))) (S:=Int × Int) (fun s=>f16_hw1_0 p1 s.1 s.2) (f16_w1B k c16 (fun y0=>retF y0) p1) (fun NX s=>by
  exact Eq.mp (by kernel_rfl) (f16_w1b0_eq k c16 retF NX p1 s.1 s.2)) k (n3,n4))

noncomputable def f16_e (c16:PV→(Int→R)→R)(ret0:Int→R)(w1:Int→Int→R)(p1:PV):R :=
 w1 1 0

theorem f16_e_mem (k:Nat)(c16:PV→(Int→R)→R)(retF:Int→R)(p1:PV):exec (f16_E k c16) f16_code (endK (f16_E k c16) Try.f16 [] f16_un retF) ⟨[.val 27 p1,.undef,.undef,.undef,.undef,.undef,.undef,.undef,.undef,.undef,.undef,.undef,.undef,.undef,.undef,.undef,.undef,.undef,.undef,.undef,.undef,.undef],[]⟩=f16_e c16 (fun y0=>retF y0) (fun n3 n4=>f16_w1A k c16 retF p1 n3 n4) p1:=by kernel_rfl

noncomputable def f16_N (k:Nat)(c16:PV→(Int→R)→R)(ret0:Int→R)(p1:PV):R :=
 f16_e c16 ret0 (fun n3 n4=>f16_w1N k c16 ret0 p1 n3 n4) p1
theorem f16_eq (k:Nat)(c16:PV→(Int→R)→R)(retF:Int→R)(p1:PV):exec (f16_E k c16) f16_code (endK (f16_E k c16) Try.f16 [] f16_un retF) ⟨[.val 27 p1,.undef,.undef,.undef,.undef,.undef,.undef,.undef,.undef,.undef,.undef,.undef,.undef,.undef,.undef,.undef,.undef,.undef,.undef,.undef,.undef,.undef],[]⟩=f16_N k c16 (fun y0=>retF y0) p1 :=
 (f16_e_mem k c16 retF p1).trans (by rw [show (fun n3 n4=>f16_w1A k c16 retF p1 n3 n4)=(fun n3 n4=>f16_w1N k c16 (fun y0=>retF y0) p1 n3 n4) from funext fun n3=>funext fun n4=>f16_w1_eq k c16 retF p1 n3 n4];rfl)

noncomputable def G16:Nat→PV→(Int→R)→R
 | 0,_,_=>none
 | k+1,p1,ret0=>f16_N k (G16 k) ret0 p1
theorem S16:∀ k,Snd Try.prog 16 f16_I f16_O (fun x ret=>G16 k x (fun y0=>ret y0))
 | 0=>snd_none
 | k+1=>snd_step (E:=f16_E k (G16 k)) rfl laidOut noNums (orc_ok (S16 k).o f16_D_ok orc0_ok) (f:=16) (fn:=Try.f16) (code:=f16_code) Try.func16 (by kernel_rfl) (drawsOk_of laidOut (orc_ok (S16 k).o f16_D_ok orc0_ok) mixed (by kernel_rfl)) f16_un f16_un_ok [] (fun _=>rfl)
   (fun x ret=>f16_eq k (G16 k) ret x)

/- catchpole/core.kids -/
noncomputable def f89_I:Int→List SV × Obs:=fun x=>([.int .i64 x],[])
noncomputable def f89_D:List SV→Obs→Option (Int)
 | [.int .i64 n1],[]=>some n1
 | _,_=>none
theorem f89_D_ok (args:List SV)(B:Obs)(x:Int)(h:f89_D args B=some x):f89_I x=(args,B):=by
 unfold f89_D at h
 split at h
 ·injection h with h;subst h;rfl
 ·cases h
noncomputable def f89_O:Int→Out:=(fun y=>([.int .i64 y],[]))
noncomputable def f89_un:Out→Option (Int)
 | ([.int .i64 y0],[])=>some y0
 | _=>none
theorem f89_un_ok (o:Out)(y:Int)(h:f89_un o=some y):o=f89_O y:=by
 unfold f89_un at h
 split at h
 ·injection h with h;subst h;rfl
 ·cases h
noncomputable def f89_msk:Nat→Option (List Nat):=fun key=> none
noncomputable def f89_C:Oracle:=orc0
noncomputable def f89_E (k:Nat):Env:={ P:=Try.prog,nilOwn:=fun d=>false,fldOwn:=fun d i=>false,ownPar:=ownPars,ownRet:=false,hpD:=fun d=>false,hpF:=hpFs,hpNew:=false,mask:=f89_msk,fuel:=k,C:=f89_C }
noncomputable def f89_code:Code:=Try.f89.body.getD .skip
noncomputable def f89_e (ret0:Int→R)(n1:Int):R :=
 bif (decide (n1=(0:Int))) then
 ret0 0
 else bif (decide (n1=(1:Int))) then
 ret0 0
 else bif (decide (n1=(2:Int))) then
 ret0 0
 else bif (decide (n1=(3:Int))) then
 ret0 2
 else bif (decide (n1=(4:Int))) then
 ret0 2
 else bif (decide (n1=(5:Int))) then
 ret0 1
 else bif (decide (n1=(6:Int))) then
 ret0 1
 else bif (decide (n1=(7:Int))) then
 ret0 1
 else ret0 (-1)

theorem f89_e_mem (k:Nat)(retF:Int→R)(n1:Int):exec (f89_E k) f89_code (endK (f89_E k) Try.f89 [] f89_un retF) ⟨[.int .i64 n1,.undef,.undef,.undef,.undef,.undef,.undef,.undef,.undef,.undef,.undef,.undef,.undef,.undef,.undef],[]⟩=f89_e (fun y0=>retF y0) n1:=by kernel_rfl

noncomputable def f89_N (k:Nat)(ret0:Int→R)(n1:Int):R :=
 f89_e ret0 n1
theorem f89_eq (k:Nat)(retF:Int→R)(n1:Int):exec (f89_E k) f89_code (endK (f89_E k) Try.f89 [] f89_un retF) ⟨[.int .i64 n1,.undef,.undef,.undef,.undef,.undef,.undef,.undef,.undef,.undef,.undef,.undef,.undef,.undef,.undef],[]⟩=f89_N k (fun y0=>retF y0) n1 :=
 (f89_e_mem k retF n1)

noncomputable def G89:Nat→Int→(Int→R)→R
 | 0,_,_=>none
 | k+1,n1,ret0=>f89_N k  ret0 n1
theorem S89:∀ k,Snd Try.prog 89 f89_I f89_O (fun x ret=>G89 k x (fun y0=>ret y0))
 | 0=>snd_none
 | k+1=>snd_step (E:=f89_E k ) rfl laidOut noNums orc0_ok (f:=89) (fn:=Try.f89) (code:=f89_code) Try.func89 (by kernel_rfl) (drawsOk_of laidOut orc0_ok mixed (by kernel_rfl)) f89_un f89_un_ok [] (fun _=>rfl)
   (fun x ret=>f89_eq k  ret x)

/- catchpole/core.good$1 -/
noncomputable def f91_I:PV × Int→List SV × Obs:=fun x=>([.val 27 x.1,.ptr 4000000 []],[(4000000,.box 3 (.int .i64 x.2))])
noncomputable def f91_D:List SV→Obs→Option (PV × Int)
 | [.val 27 p1,.ptr 4000000 []],[(4000000,.box 3 (.int .i64 n2))]=>some (p1,n2)
 | _,_=>none
theorem f91_D_ok (args:List SV)(B:Obs)(x:PV × Int)(h:f91_D args B=some x):f91_I x=(args,B):=by
 unfold f91_D at h
 split at h
 ·injection h with h;subst h;rfl
 ·cases h
noncomputable def f91_O:Bool × Int→Out:=(fun y=>([.bool y.1],[(4000000,.box 3 (.int .i64 y.2))]))
noncomputable def f91_un:Out→Option (Bool × Int)
 | ([.bool y0],[(4000000,.box 3 (.int .i64 y1))])=>some (y0,y1)
 | _=>none
theorem f91_un_ok (o:Out)(y:Bool × Int)(h:f91_un o=some y):o=f91_O y:=by
 unfold f91_un at h
 split at h
 ·injection h with h;subst h;rfl
 ·cases h
/- slices.IndexFunc[[]catchpole/core.Core,catchpole/core.Core] -/
noncomputable def f112_I:PV × Int→List SV × Obs:=fun x=>([.val 25 x.1,.fn 91 [.ptr 4001000 []]],[(4001000,.box 3 (.int .i64 x.2))])
noncomputable def f112_D:List SV→Obs→Option (PV × Int)
 | [.val 25 p1,.fn 91 [.ptr 4001000 []]],[(4001000,.box 3 (.int .i64 n2))]=>some (p1,n2)
 | _,_=>none
theorem f112_D_ok (args:List SV)(B:Obs)(x:PV × Int)(h:f112_D args B=some x):f112_I x=(args,B):=by
 unfold f112_D at h
 split at h
 ·injection h with h;subst h;rfl
 ·cases h
noncomputable def f112_O:Int × Int→Out:=(fun y=>([.int .i64 y.1],[(4001000,.box 3 (.int .i64 y.2))]))
noncomputable def f112_un:Out→Option (Int × Int)
 | ([.int .i64 y0],[(4001000,.box 3 (.int .i64 y1))])=>some (y0,y1)
 | _=>none
theorem f112_un_ok (o:Out)(y:Int × Int)(h:f112_un o=some y):o=f112_O y:=by
 unfold f112_un at h
 split at h
 ·injection h with h;subst h;rfl
 ·cases h
/- slices.ContainsFunc[[]catchpole/core.Core,catchpole/core.Core] -/
noncomputable def f90_I:PV × Int→List SV × Obs:=fun x=>([.val 25 x.1,.fn 91 [.ptr 4001000 []]],[(4001000,.box 3 (.int .i64 x.2))])
noncomputable def f90_D:List SV→Obs→Option (PV × Int)
 | [.val 25 p1,.fn 91 [.ptr 4001000 []]],[(4001000,.box 3 (.int .i64 n2))]=>some (p1,n2)
 | _,_=>none
theorem f90_D_ok (args:List SV)(B:Obs)(x:PV × Int)(h:f90_D args B=some x):f90_I x=(args,B):=by
 unfold f90_D at h
 split at h
 ·injection h with h;subst h;rfl
 ·cases h
noncomputable def f90_O:Bool × Int→Out:=(fun y=>([.bool y.1],[(4001000,.box 3 (.int .i64 y.2))]))
noncomputable def f90_un:Out→Option (Bool × Int)
 | ([.bool y0],[(4001000,.box 3 (.int .i64 y1))])=>some (y0,y1)
 | _=>none
theorem f90_un_ok (o:Out)(y:Bool × Int)(h:f90_un o=some y):o=f90_O y:=by
 unfold f90_un at h
 split at h
 ·injection h with h;subst h;rfl
 ·cases h
/- catchpole/core.good -/
noncomputable def f60_I:PV × Int→List SV × Obs:=fun x=>([.val 27 x.1,.int .i64 x.2],[])
noncomputable def f60_D:List SV→Obs→Option (PV × Int)
 | [.val 27 p1,.int .i64 n2],[]=>some (p1,n2)
 | _,_=>none
theorem f60_D_ok (args:List SV)(B:Obs)(x:PV × Int)(h:f60_D args B=some x):f60_I x=(args,B):=by
 unfold f60_D at h
 split at h
 ·injection h with h;subst h;rfl
 ·cases h
noncomputable def f60_O:Bool→Out:=(fun y=>([.bool y],[]))
noncomputable def f60_un:Out→Option (Bool)
 | ([.bool y0],[])=>some y0
 | _=>none
theorem f60_un_ok (o:Out)(y:Bool)(h:f60_un o=some y):o=f60_O y:=by
 unfold f60_un at h
 split at h
 ·injection h with h;subst h;rfl
 ·cases h
noncomputable def f91_msk:Nat→Option (List Nat):=fun key=> none
noncomputable def f91_C (c60:PV→Int→(Bool→R)→R):Oracle:=orc 60 f60_D f60_O (fun x ret=>c60 x.1 x.2 (fun y0=>ret y0)) <| orc0
noncomputable def f91_E (k:Nat)(c60:PV→Int→(Bool→R)→R):Env:={ P:=Try.prog,nilOwn:=fun d=>false,fldOwn:=fun d i=>false,ownPar:=ownPars,ownRet:=false,hpD:=fun d=>false,hpF:=hpFs,hpNew:=false,mask:=f91_msk,fuel:=k,C:=f91_C c60 }
noncomputable def f91_code:Code:=Try.f91.body.getD .skip
noncomputable def f91_e (c60:PV→Int→(Bool→R)→R)(ret0:Bool→Int→R)(p1:PV)(n2:Int):R :=
 c60 p1 (IntKind.wrap .i64 (n2 - (1:Int))) fun b3 =>
 ret0 (!b3) n2

theorem f91_e_mem (k:Nat)(c60:PV→Int→(Bool→R)→R)(retF:Bool × Int→R)(p1:PV)(n2:Int):exec (f91_E k c60) f91_code (endK (f91_E k c60) Try.f91 [4000000] f91_un retF) ⟨[.val 27 p1,.ptr 4000000 [],.undef,.undef,.undef,.undef,.undef,.undef,.undef],[(4000000,.box 3 (.int .i64 n2))]⟩=f91_e c60 (fun y0 y1=>retF (y0,y1)) p1 n2:=by kernel_rfl

noncomputable def f91_N (k:Nat)(c60:PV→Int→(Bool→R)→R)(ret0:Bool→Int→R)(p1:PV)(n2:Int):R :=
 f91_e c60 ret0 p1 n2
theorem f91_eq (k:Nat)(c60:PV→Int→(Bool→R)→R)(retF:Bool × Int→R)(p1:PV)(n2:Int):exec (f91_E k c60) f91_code (endK (f91_E k c60) Try.f91 [4000000] f91_un retF) ⟨[.val 27 p1,.ptr 4000000 [],.undef,.undef,.undef,.undef,.undef,.undef,.undef],[(4000000,.box 3 (.int .i64 n2))]⟩=f91_N k c60 (fun y0 y1=>retF (y0,y1)) p1 n2 :=
 (f91_e_mem k c60 retF p1 n2)

noncomputable def f112_msk:Nat→Option (List Nat):=fun key=>bif key==6 then some [0,1,7,8] else none
noncomputable def f112_C (c91:PV→Int→(Bool→Int→R)→R):Oracle:=orc 91 f91_D f91_O (fun x ret=>c91 x.1 x.2 (fun y0 y1=>ret (y0,y1))) <| orc0
noncomputable def f112_E (k:Nat)(c91:PV→Int→(Bool→Int→R)→R):Env:={ P:=Try.prog,nilOwn:=fun d=>false,fldOwn:=fun d i=>false,ownPar:=ownPars,ownRet:=false,hpD:=fun d=>false,hpF:=hpFs,hpNew:=false,mask:=f112_msk,fuel:=k,C:=f112_C c91 }
noncomputable def f112_code:Code:=Try.f112.body.getD .skip
noncomputable def f112_cw1:Code:=subC f112_code [1,0,1,0,0]
noncomputable def f112_hw1_0 (p1:PV)(n5:Int)(n6:Int):St:=⟨[.val 25 p1,.fn 91 [.ptr 4001000 []],.dead,.dead,.dead,.dead,.dead,.int .i64 (List.length (PV.els p1):Int),.int .i64 n5,.dead,.dead,.dead,.dead,.dead,.dead,.dead,.dead,.dead,.dead],[(4001000,.box 3 (.int .i64 n6))]⟩
noncomputable def f112_w1A (k:Nat)(c91:PV→Int→(Bool→Int→R)→R)(retF:Int × Int→R)(p1:PV)(n5:Int)(n6:Int):R:=loopM (f112_E k c91) f112_cw1 (kont (f112_E k c91) f112_code [1,0,1,0] (endK (f112_E k c91) Try.f112 [4001000] f112_un retF)) k (f112_hw1_0 p1 n5 n6)
noncomputable def f112_w1b0 (c91:PV→Int→(Bool→Int→R)→R)(ret0:Int→Int→R)(next_w1_0:Int→Int→R)(p1:PV)(n5:Int)(n6:Int):R :=
 bif (decide (n5 < (List.length (PV.els p1):Int))) then
 bif (true&&decide ((0:Int)≤n5)&&decide (n5 < (List.length (PV.els p1):Int))) then
 c91 (List.getD (PV.els p1) (n5).toNat PV.nil) n6 fun b7 n8 =>
 bif b7 then
 ret0 n5 n8
 else next_w1_0 (IntKind.wrap .i64 (n5+(1:Int))) n8
 else none
 else ret0 (-1) n6

theorem f112_w1b0_mem (k:Nat)(c91:PV→Int→(Bool→Int→R)→R)(retF:Int × Int→R)(NX_w1:St→R)(p1:PV)(n5:Int)(n6:Int):exec (f112_E k c91) f112_cw1 (purgeK (f112_E k c91) f112_cw1 (loopK NX_w1 (kont (f112_E k c91) f112_code [1,0,1,0] (endK (f112_E k c91) Try.f112 [4001000] f112_un retF)))) (f112_hw1_0 p1 n5 n6)=f112_w1b0 c91 (fun y0 y1=>retF (y0,y1)) (fun n5 n6=>NX_w1 (f112_hw1_0 p1 n5 n6)) p1 n5 n6:=by kernel_rfl

noncomputable def f112_w1b0N (k:Nat)(c91:PV→Int→(Bool→Int→R)→R)(ret0:Int→Int→R)(next_w1_0:Int→Int→R)(p1:PV)(n5:Int)(n6:Int):R :=
 f112_w1b0 c91 ret0 next_w1_0 p1 n5 n6
theorem f112_w1b0_eq (k:Nat)(c91:PV→Int→(Bool→Int→R)→R)(retF:Int × Int→R)(NX_w1:St→R)(p1:PV)(n5:Int)(n6:Int):exec (f112_E k c91) f112_cw1 (purgeK (f112_E k c91) f112_cw1 (loopK NX_w1 (kont (f112_E k c91) f112_code [1,0,1,0] (endK (f112_E k c91) Try.f112 [4001000] f112_un retF)))) (f112_hw1_0 p1 n5 n6)=f112_w1b0N k c91 (fun y0 y1=>retF (y0,y1)) (fun n5 n6=>NX_w1 (f112_hw1_0 p1 n5 n6)) p1 n5 n6 :=
 (f112_w1b0_mem k c91 retF NX_w1 p1 n5 n6)

noncomputable def f112_w1B (k:Nat)(c91:PV→Int→(Bool→Int→R)→R)(ret0:Int→Int→R)(p1:PV)(nx:Int × Int→R):Int × Int→R:=(fun s=>f112_w1b0N k c91 ret0 (fun n5 n6=>nx (n5,n6)) p1 s.1 s.2)
noncomputable def f112_w1N (k:Nat)(c91:PV→Int→(Bool→Int→R)→R)(ret0:Int→Int→R)(p1:PV)(n5:Int)(n6:Int):R:=loopR (f112_w1B k c91 ret0 p1) k (n5,n6)
theorem f112_w1_eq (k:Nat)(c91:PV→Int→(Bool→Int→R)→R)(retF:Int × Int→R)(p1:PV)(n5:Int)(n6:Int):f112_w1A k c91 retF p1 n5 n6=f112_w1N k c91 (fun y0 y1=>retF (y0,y1)) p1 n5 n6 :=
 Eq.mp (by kernel_rfl) (loop_sim (E:=(f112_E k c91)) (c:=f112_cw1) (K:=(kont (f112_E k c91) f112_code [1,0,1,0] (endK (f112_E k c91) Try.f112 [4001000] f112_un retF))) (S:=Int × Int) (fun s=>f112_hw1_0 p1 s.1 s.2) (f112_w1B k c91 (fun y0 y1=>retF (y0,y1)) p1) (fun NX s=>by
  exact Eq.mp (by kernel_rfl) (f112_w1b0_eq k c91 retF NX p1 s.1 s.2)) k (n5,n6))

noncomputable def f112_e (c91:PV→Int→(Bool→Int→R)→R)(ret0:Int→Int→R)(w1:Int→Int→R)(p1:PV)(n2:Int):R :=
 w1 0 n2

theorem f112_e_mem (k:Nat)(c91:PV→Int→(Bool→Int→R)→R)(retF:Int × Int→R)(p1:PV)(n2:Int):exec (f112_E k c91) f112_code (endK (f112_E k c91) Try.f112 [4001000] f112_un retF) ⟨[.val 25 p1,.fn 91 [.ptr 4001000 []],.undef,.undef,.undef,.undef,.undef,.undef,.undef,.undef,.undef,.undef,.undef,.undef,.undef,.undef,.undef,.undef,.undef],[(4001000,.box 3 (.int .i64 n2))]⟩=f112_e c91 (fun y0 y1=>retF (y0,y1)) (fun n5 n6=>f112_w1A k c91 retF p1 n5 n6) p1 n2:=by kernel_rfl

noncomputable def f112_N (k:Nat)(c91:PV→Int→(Bool→Int→R)→R)(ret0:Int→Int→R)(p1:PV)(n2:Int):R :=
 f112_e c91 ret0 (fun n5 n6=>f112_w1N k c91 ret0 p1 n5 n6) p1 n2
theorem f112_eq (k:Nat)(c91:PV→Int→(Bool→Int→R)→R)(retF:Int × Int→R)(p1:PV)(n2:Int):exec (f112_E k c91) f112_code (endK (f112_E k c91) Try.f112 [4001000] f112_un retF) ⟨[.val 25 p1,.fn 91 [.ptr 4001000 []],.undef,.undef,.undef,.undef,.undef,.undef,.undef,.undef,.undef,.undef,.undef,.undef,.undef,.undef,.undef,.undef,.undef],[(4001000,.box 3 (.int .i64 n2))]⟩=f112_N k c91 (fun y0 y1=>retF (y0,y1)) p1 n2 :=
 (f112_e_mem k c91 retF p1 n2).trans (by rw [show (fun n5 n6=>f112_w1A k c91 retF p1 n5 n6)=(fun n5 n6=>f112_w1N k c91 (fun y0 y1=>retF (y0,y1)) p1 n5 n6) from funext fun n5=>funext fun n6=>f112_w1_eq k c91 retF p1 n5 n6];rfl)

noncomputable def f90_msk:Nat→Option (List Nat):=fun key=> none
noncomputable def f90_C (c112:PV→Int→(Int→Int→R)→R):Oracle:=orc 112 f112_D f112_O (fun x ret=>c112 x.1 x.2 (fun y0 y1=>ret (y0,y1))) <| orc0
noncomputable def f90_E (k:Nat)(c112:PV→Int→(Int→Int→R)→R):Env:={ P:=Try.prog,nilOwn:=fun d=>false,fldOwn:=fun d i=>false,ownPar:=ownPars,ownRet:=false,hpD:=fun d=>false,hpF:=hpFs,hpNew:=false,mask:=f90_msk,fuel:=k,C:=f90_C c112 }
noncomputable def f90_code:Code:=Try.f90.body.getD .skip
noncomputable def f90_e (c112:PV→Int→(Int→Int→R)→R)(ret0:Bool→Int→R)(p1:PV)(n2:Int):R :=
 c112 p1 n2 fun n3 n4 =>
 ret0 (decide ((0:Int)≤n3)) n4

theorem f90_e_mem (k:Nat)(c112:PV→Int→(Int→Int→R)→R)(retF:Bool × Int→R)(p1:PV)(n2:Int):exec (f90_E k c112) f90_code (endK (f90_E k c112) Try.f90 [4001000] f90_un retF) ⟨[.val 25 p1,.fn 91 [.ptr 4001000 []],.undef,.undef,.undef,.undef,.undef,.undef,.undef],[(4001000,.box 3 (.int .i64 n2))]⟩=f90_e c112 (fun y0 y1=>retF (y0,y1)) p1 n2:=by kernel_rfl

noncomputable def f90_N (k:Nat)(c112:PV→Int→(Int→Int→R)→R)(ret0:Bool→Int→R)(p1:PV)(n2:Int):R :=
 f90_e c112 ret0 p1 n2
theorem f90_eq (k:Nat)(c112:PV→Int→(Int→Int→R)→R)(retF:Bool × Int→R)(p1:PV)(n2:Int):exec (f90_E k c112) f90_code (endK (f90_E k c112) Try.f90 [4001000] f90_un retF) ⟨[.val 25 p1,.fn 91 [.ptr 4001000 []],.undef,.undef,.undef,.undef,.undef,.undef,.undef],[(4001000,.box 3 (.int .i64 n2))]⟩=f90_N k c112 (fun y0 y1=>retF (y0,y1)) p1 n2 :=
 (f90_e_mem k c112 retF p1 n2)

noncomputable def f60_msk:Nat→Option (List Nat):=fun key=> none
noncomputable def f60_C (c89:Int→(Int→R)→R)(c90:PV→Int→(Bool→Int→R)→R):Oracle:=orc 89 f89_D f89_O (fun x ret=>c89 x (fun y0=>ret y0)) <| orc 90 f90_D f90_O (fun x ret=>c90 x.1 x.2 (fun y0 y1=>ret (y0,y1))) <| orc0
noncomputable def f60_E (k:Nat)(c89:Int→(Int→R)→R)(c90:PV→Int→(Bool→Int→R)→R):Env:={ P:=Try.prog,nilOwn:=fun d=>false,fldOwn:=fun d i=>false,ownPar:=ownPars,ownRet:=false,hpD:=fun d=>false,hpF:=hpFs,hpNew:=false,mask:=f60_msk,fuel:=k,C:=f60_C c89 c90 }
noncomputable def f60_code:Code:=Try.f60.body.getD .skip
noncomputable def f60_e (c89:Int→(Int→R)→R)(c90:PV→Int→(Bool→Int→R)→R)(ret0:Bool→R)(p1:PV)(n2:Int):R :=
 bif ((decide (n2 < (1:Int)))==false) then
 c89 (PV.num (PV.fld p1 0)) fun n3 =>
 bif ((!(decide ((List.length (PV.els (PV.fld p1 3)):Int)=n3)))==false) then
 bif ((!(decide ((PV.num (PV.fld p1 0))=(2:Int))))==true) then
 bif (!(PV.beq (PV.fld p1 1) (PV.agg [(PV.int 0),(PV.int 0),(PV.int 0),(PV.int 0)]))) then
 ret0 false
 else bif ((decide ((PV.num (PV.fld p1 0))=(6:Int)))==true) then
 bif ((decide ((PV.num (PV.fld p1 2)) < (1:Int)))==false) then
 bif ((decide ((32:Int) < (PV.num (PV.fld p1 2))))==false) then
 bif ((!(decide ((PV.num (PV.fld p1 0))=(6:Int))))==true) then
 bif (!(decide ((PV.num (PV.fld p1 2))=(0:Int)))) then
 ret0 false
 else c90 (PV.fld p1 3) n2 fun b4 n5 =>
 ret0 (!b4)
 else c90 (PV.fld p1 3) n2 fun b6 n7 =>
 ret0 (!b6)
 else ret0 false
 else ret0 false
 else bif ((!(decide ((PV.num (PV.fld p1 0))=(6:Int))))==true) then
 bif (!(decide ((PV.num (PV.fld p1 2))=(0:Int)))) then
 ret0 false
 else c90 (PV.fld p1 3) n2 fun b8 n9 =>
 ret0 (!b8)
 else c90 (PV.fld p1 3) n2 fun b10 n11 =>
 ret0 (!b10)
 else bif ((decide ((PV.num (PV.fld p1 0))=(6:Int)))==true) then
 bif ((decide ((PV.num (PV.fld p1 2)) < (1:Int)))==false) then
 bif ((decide ((32:Int) < (PV.num (PV.fld p1 2))))==false) then
 bif ((!(decide ((PV.num (PV.fld p1 0))=(6:Int))))==true) then
 bif (!(decide ((PV.num (PV.fld p1 2))=(0:Int)))) then
 ret0 false
 else c90 (PV.fld p1 3) n2 fun b12 n13 =>
 ret0 (!b12)
 else c90 (PV.fld p1 3) n2 fun b14 n15 =>
 ret0 (!b14)
 else ret0 false
 else ret0 false
 else bif ((!(decide ((PV.num (PV.fld p1 0))=(6:Int))))==true) then
 bif (!(decide ((PV.num (PV.fld p1 2))=(0:Int)))) then
 ret0 false
 else c90 (PV.fld p1 3) n2 fun b16 n17 =>
 ret0 (!b16)
 else c90 (PV.fld p1 3) n2 fun b18 n19 =>
 ret0 (!b18)
 else ret0 false
 else ret0 false

theorem f60_e_mem (k:Nat)(c89:Int→(Int→R)→R)(c90:PV→Int→(Bool→Int→R)→R)(retF:Bool→R)(p1:PV)(n2:Int):exec (f60_E k c89 c90) f60_code (endK (f60_E k c89 c90) Try.f60 [] f60_un retF) ⟨[.val 27 p1,.int .i64 n2,.undef,.undef,.undef,.undef,.undef,.undef,.undef,.undef,.undef,.undef,.undef,.undef,.undef,.undef,.undef,.undef,.undef,.undef,.undef,.undef,.undef,.undef,.undef,.undef,.undef,.undef,.undef,.undef,.undef,.undef,.undef,.undef,.undef,.undef,.undef,.undef,.undef,.undef,.undef,.undef,.undef,.undef,.undef,.undef,.undef,.undef,.undef,.undef,.undef,.undef,.undef,.undef,.undef],[]⟩=f60_e c89 c90 (fun y0=>retF y0) p1 n2:=by kernel_rfl

noncomputable def f60_N (k:Nat)(c89:Int→(Int→R)→R)(c90:PV→Int→(Bool→Int→R)→R)(ret0:Bool→R)(p1:PV)(n2:Int):R :=
 f60_e c89 c90 ret0 p1 n2
theorem f60_eq (k:Nat)(c89:Int→(Int→R)→R)(c90:PV→Int→(Bool→Int→R)→R)(retF:Bool→R)(p1:PV)(n2:Int):exec (f60_E k c89 c90) f60_code (endK (f60_E k c89 c90) Try.f60 [] f60_un retF) ⟨[.val 27 p1,.int .i64 n2,.undef,.undef,.undef,.undef,.undef,.undef,.undef,.undef,.undef,.undef,.undef,.undef,.undef,.undef,.undef,.undef,.undef,.undef,.undef,.undef,.undef,.undef,.undef,.undef,.undef,.undef,.undef,.undef,.undef,.undef,.undef,.undef,.undef,.undef,.undef,.undef,.undef,.undef,.undef,.undef,.undef,.undef,.undef,.undef,.undef,.undef,.undef,.undef,.undef,.undef,.undef,.undef,.undef],[]⟩=f60_N k c89 c90 (fun y0=>retF y0) p1 n2 :=
 (f60_e_mem k c89 c90 retF p1 n2)

mutual
noncomputable def G91:Nat→PV→Int→(Bool→Int→R)→R
 | 0,_,_,_=>none
 | k+1,p1,n2,ret0=>f91_N k (G60 k) ret0 p1 n2
noncomputable def G112:Nat→PV→Int→(Int→Int→R)→R
 | 0,_,_,_=>none
 | k+1,p1,n2,ret0=>f112_N k (G91 k) ret0 p1 n2
noncomputable def G90:Nat→PV→Int→(Bool→Int→R)→R
 | 0,_,_,_=>none
 | k+1,p1,n2,ret0=>f90_N k (G112 k) ret0 p1 n2
noncomputable def G60:Nat→PV→Int→(Bool→R)→R
 | 0,_,_,_=>none
 | k+1,p1,n2,ret0=>f60_N k (G89 k) (G90 k) ret0 p1 n2
end
mutual
theorem S91:∀ k,Snd Try.prog 91 f91_I f91_O (fun x ret=>G91 k x.1 x.2 (fun y0 y1=>ret (y0,y1)))
 | 0=>snd_none
 | k+1=>snd_step (E:=f91_E k (G60 k)) rfl laidOut noNums (orc_ok (S60 k).o f60_D_ok orc0_ok) (f:=91) (fn:=Try.f91) (code:=f91_code) Try.func91 (by kernel_rfl) (drawsOk_of laidOut (orc_ok (S60 k).o f60_D_ok orc0_ok) mixed (by kernel_rfl)) f91_un f91_un_ok [4000000] (fun _=>rfl)
   (fun x ret=>f91_eq k (G60 k) ret x.1 x.2)
theorem S112:∀ k,Snd Try.prog 112 f112_I f112_O (fun x ret=>G112 k x.1 x.2 (fun y0 y1=>ret (y0,y1)))
 | 0=>snd_none
 | k+1=>snd_step (E:=f112_E k (G91 k)) rfl laidOut noNums (orc_ok (S91 k).o f91_D_ok orc0_ok) (f:=112) (fn:=Try.f112) (code:=f112_code) Try.func112 (by kernel_rfl) (drawsOk_of laidOut (orc_ok (S91 k).o f91_D_ok orc0_ok) mixed (by kernel_rfl)) f112_un f112_un_ok [4001000] (fun _=>rfl)
   (fun x ret=>f112_eq k (G91 k) ret x.1 x.2)
theorem S90:∀ k,Snd Try.prog 90 f90_I f90_O (fun x ret=>G90 k x.1 x.2 (fun y0 y1=>ret (y0,y1)))
 | 0=>snd_none
 | k+1=>snd_step (E:=f90_E k (G112 k)) rfl laidOut noNums (orc_ok (S112 k).o f112_D_ok orc0_ok) (f:=90) (fn:=Try.f90) (code:=f90_code) Try.func90 (by kernel_rfl) (drawsOk_of laidOut (orc_ok (S112 k).o f112_D_ok orc0_ok) mixed (by kernel_rfl)) f90_un f90_un_ok [4001000] (fun _=>rfl)
   (fun x ret=>f90_eq k (G112 k) ret x.1 x.2)
theorem S60:∀ k,Snd Try.prog 60 f60_I f60_O (fun x ret=>G60 k x.1 x.2 (fun y0=>ret y0))
 | 0=>snd_none
 | k+1=>snd_step (E:=f60_E k (G89 k) (G90 k)) rfl laidOut noNums (orc_ok (S89 k).o f89_D_ok (orc_ok (S90 k).o f90_D_ok orc0_ok)) (f:=60) (fn:=Try.f60) (code:=f60_code) Try.func60 (by kernel_rfl) (drawsOk_of laidOut (orc_ok (S89 k).o f89_D_ok (orc_ok (S90 k).o f90_D_ok orc0_ok)) mixed (by kernel_rfl)) f60_un f60_un_ok [] (fun _=>rfl)
   (fun x ret=>f60_eq k (G89 k) (G90 k) ret x.1 x.2)
end

/- catchpole/core.Good -/
noncomputable def f28_I:PV→List SV × Obs:=fun x=>([.val 27 x],[])
noncomputable def f28_D:List SV→Obs→Option (PV)
 | [.val 27 p1],[]=>some p1
 | _,_=>none
theorem f28_D_ok (args:List SV)(B:Obs)(x:PV)(h:f28_D args B=some x):f28_I x=(args,B):=by
 unfold f28_D at h
 split at h
 ·injection h with h;subst h;rfl
 ·cases h
noncomputable def f28_O:Bool→Out:=(fun y=>([.bool y],[]))
noncomputable def f28_un:Out→Option (Bool)
 | ([.bool y0],[])=>some y0
 | _=>none
theorem f28_un_ok (o:Out)(y:Bool)(h:f28_un o=some y):o=f28_O y:=by
 unfold f28_un at h
 split at h
 ·injection h with h;subst h;rfl
 ·cases h
noncomputable def f28_msk:Nat→Option (List Nat):=fun key=> none
noncomputable def f28_C (c16:PV→(Int→R)→R)(c60:PV→Int→(Bool→R)→R):Oracle:=orc 16 f16_D f16_O (fun x ret=>c16 x (fun y0=>ret y0)) <| orc 60 f60_D f60_O (fun x ret=>c60 x.1 x.2 (fun y0=>ret y0)) <| orc0
noncomputable def f28_E (k:Nat)(c16:PV→(Int→R)→R)(c60:PV→Int→(Bool→R)→R):Env:={ P:=Try.prog,nilOwn:=fun d=>false,fldOwn:=fun d i=>false,ownPar:=ownPars,ownRet:=false,hpD:=fun d=>false,hpF:=hpFs,hpNew:=false,mask:=f28_msk,fuel:=k,C:=f28_C c16 c60 }
noncomputable def f28_code:Code:=Try.f28.body.getD .skip
noncomputable def f28_e (c16:PV→(Int→R)→R)(c60:PV→Int→(Bool→R)→R)(ret0:Bool→R)(p1:PV):R :=
 c16 p1 fun n2 =>
 bif ((decide (n2≤(2000:Int)))==true) then
 c60 p1 8000 fun b3 =>
 ret0 b3
 else ret0 false

theorem f28_e_mem (k:Nat)(c16:PV→(Int→R)→R)(c60:PV→Int→(Bool→R)→R)(retF:Bool→R)(p1:PV):exec (f28_E k c16 c60) f28_code (endK (f28_E k c16 c60) Try.f28 [] f28_un retF) ⟨[.val 27 p1,.undef,.undef,.undef,.undef,.undef,.undef,.undef,.undef,.undef],[]⟩=f28_e c16 c60 (fun y0=>retF y0) p1:=by kernel_rfl

noncomputable def f28_N (k:Nat)(c16:PV→(Int→R)→R)(c60:PV→Int→(Bool→R)→R)(ret0:Bool→R)(p1:PV):R :=
 f28_e c16 c60 ret0 p1
theorem f28_eq (k:Nat)(c16:PV→(Int→R)→R)(c60:PV→Int→(Bool→R)→R)(retF:Bool→R)(p1:PV):exec (f28_E k c16 c60) f28_code (endK (f28_E k c16 c60) Try.f28 [] f28_un retF) ⟨[.val 27 p1,.undef,.undef,.undef,.undef,.undef,.undef,.undef,.undef,.undef],[]⟩=f28_N k c16 c60 (fun y0=>retF y0) p1 :=
 (f28_e_mem k c16 c60 retF p1)

noncomputable def G28:Nat→PV→(Bool→R)→R
 | 0,_,_=>none
 | k+1,p1,ret0=>f28_N k (G16 k) (G60 k) ret0 p1
theorem S28:∀ k,Snd Try.prog 28 f28_I f28_O (fun x ret=>G28 k x (fun y0=>ret y0))
 | 0=>snd_none
 | k+1=>snd_step (E:=f28_E k (G16 k) (G60 k)) rfl laidOut noNums (orc_ok (S16 k).o f16_D_ok (orc_ok (S60 k).o f60_D_ok orc0_ok)) (f:=28) (fn:=Try.f28) (code:=f28_code) Try.func28 (by kernel_rfl) (drawsOk_of laidOut (orc_ok (S16 k).o f16_D_ok (orc_ok (S60 k).o f60_D_ok orc0_ok)) mixed (by kernel_rfl)) f28_un f28_un_ok [] (fun _=>rfl)
   (fun x ret=>f28_eq k (G16 k) (G60 k) ret x)

/- (catchpole/byteset.Set).Has -/
noncomputable def f31_I:PV × Int→List SV × Obs:=fun x=>([.val 24 x.1,.int .u8 x.2],[])
noncomputable def f31_D:List SV→Obs→Option (PV × Int)
 | [.val 24 p1,.int .u8 n2],[]=>some (p1,n2)
 | _,_=>none
theorem f31_D_ok (args:List SV)(B:Obs)(x:PV × Int)(h:f31_D args B=some x):f31_I x=(args,B):=by
 unfold f31_D at h
 split at h
 ·injection h with h;subst h;rfl
 ·cases h
noncomputable def f31_O:Bool→Out:=(fun y=>([.bool y],[]))
noncomputable def f31_un:Out→Option (Bool)
 | ([.bool y0],[])=>some y0
 | _=>none
theorem f31_un_ok (o:Out)(y:Bool)(h:f31_un o=some y):o=f31_O y:=by
 unfold f31_un at h
 split at h
 ·injection h with h;subst h;rfl
 ·cases h
noncomputable def f31_msk:Nat→Option (List Nat):=fun key=> none
noncomputable def f31_C:Oracle:=orc0
noncomputable def f31_E (k:Nat):Env:={ P:=Try.prog,nilOwn:=fun d=>false,fldOwn:=fun d i=>false,ownPar:=ownPars,ownRet:=false,hpD:=fun d=>false,hpF:=hpFs,hpNew:=false,mask:=f31_msk,fuel:=k,C:=f31_C }
noncomputable def f31_code:Code:=Try.f31.body.getD .skip
noncomputable def f31_e (ret0:Bool→R)(p1:PV)(n2:Int):R :=
 bif (true&&decide ((0:Int)≤(IntKind.wrap .u8 (Int.tdiv n2 64)))&&decide ((IntKind.wrap .u8 (Int.tdiv n2 64)) < 4)) then
 bif (decide ((0:Int)≤(Int.tmod n2 64))) then
 let n3:Int:=(Int.fdiv (PV.num (PV.fld p1 ((IntKind.wrap .u8 (Int.tdiv n2 64))).toNat)) (2 ^ (min ((Int.tmod n2 64)).toNat 64)))
 ret0 (decide ((intBit .and .u64 n3 1)=(1:Int)))
 else none
 else none

theorem f31_e_mem (k:Nat)(retF:Bool→R)(p1:PV)(n2:Int):exec (f31_E k) f31_code (endK (f31_E k) Try.f31 [] f31_un retF) ⟨[.val 24 p1,.int .u8 n2,.undef,.undef,.undef,.undef,.undef,.undef,.undef,.undef,.undef,.undef,.undef,.undef],[]⟩=f31_e (fun y0=>retF y0) p1 n2:=by kernel_rfl

noncomputable def f31_N (k:Nat)(ret0:Bool→R)(p1:PV)(n2:Int):R :=
 f31_e ret0 p1 n2
theorem f31_eq (k:Nat)(retF:Bool→R)(p1:PV)(n2:Int):exec (f31_E k) f31_code (endK (f31_E k) Try.f31 [] f31_un retF) ⟨[.val 24 p1,.int .u8 n2,.undef,.undef,.undef,.undef,.undef,.undef,.undef,.undef,.undef,.undef,.undef,.undef],[]⟩=f31_N k (fun y0=>retF y0) p1 n2 :=
 (f31_e_mem k retF p1 n2)

noncomputable def G31:Nat→PV→Int→(Bool→R)→R
 | 0,_,_,_=>none
 | k+1,p1,n2,ret0=>f31_N k  ret0 p1 n2
theorem S31:∀ k,Snd Try.prog 31 f31_I f31_O (fun x ret=>G31 k x.1 x.2 (fun y0=>ret y0))
 | 0=>snd_none
 | k+1=>snd_step (E:=f31_E k ) rfl laidOut noNums orc0_ok (f:=31) (fn:=Try.f31) (code:=f31_code) Try.func31 (by kernel_rfl) (drawsOk_of laidOut orc0_ok mixed (by kernel_rfl)) f31_un f31_un_ok [] (fun _=>rfl)
   (fun x ret=>f31_eq k  ret x.1 x.2)

/- catchpole/deriv.empty -/
noncomputable def f87_I:Unit→List SV × Obs:=fun x=>([],[])
noncomputable def f87_D:List SV→Obs→Option (Unit)
 | [],[]=>some ()
 | _,_=>none
theorem f87_D_ok (args:List SV)(B:Obs)(x:Unit)(h:f87_D args B=some x):f87_I x=(args,B):=by
 unfold f87_D at h
 split at h
 ·injection h with h;subst h;rfl
 ·cases h
noncomputable def f87_O:PV→Out:=(fun y=>([.val 27 y],[]))
noncomputable def f87_un:Out→Option (PV)
 | ([.val 27 y0],[])=>some y0
 | _=>none
theorem f87_un_ok (o:Out)(y:PV)(h:f87_un o=some y):o=f87_O y:=by
 unfold f87_un at h
 split at h
 ·injection h with h;subst h;rfl
 ·cases h
noncomputable def f87_msk:Nat→Option (List Nat):=fun key=> none
noncomputable def f87_C:Oracle:=orc0
noncomputable def f87_E (k:Nat):Env:={ P:=Try.prog,nilOwn:=fun d=>false,fldOwn:=fun d i=>false,ownPar:=ownPars,ownRet:=false,hpD:=fun d=>false,hpF:=hpFs,hpNew:=false,mask:=f87_msk,fuel:=k,C:=f87_C }
noncomputable def f87_code:Code:=Try.f87.body.getD .skip
noncomputable def f87_e (ret0:PV→R):R :=
 ret0 (PV.agg [(PV.int 1),(PV.agg [(PV.int 0),(PV.int 0),(PV.int 0),(PV.int 0)]),(PV.int 0),(PV.list [])])

theorem f87_e_mem (k:Nat)(retF:PV→R):exec (f87_E k) f87_code (endK (f87_E k) Try.f87 [] f87_un retF) ⟨[.undef,.undef],[]⟩=f87_e (fun y0=>retF y0):=by kernel_rfl

noncomputable def f87_N (k:Nat)(ret0:PV→R):R :=
 f87_e ret0
theorem f87_eq (k:Nat)(retF:PV→R):exec (f87_E k) f87_code (endK (f87_E k) Try.f87 [] f87_un retF) ⟨[.undef,.undef],[]⟩=f87_N k (fun y0=>retF y0) :=
 (f87_e_mem k retF)

noncomputable def G87:Nat→(PV→R)→R
 | 0,_=>none
 | k+1,ret0=>f87_N k  ret0 
theorem S87:∀ k,Snd Try.prog 87 f87_I f87_O (fun x ret=>G87 k (fun y0=>ret y0))
 | 0=>snd_none
 | k+1=>snd_step (E:=f87_E k ) rfl laidOut noNums orc0_ok (f:=87) (fn:=Try.f87) (code:=f87_code) Try.func87 (by kernel_rfl) (drawsOk_of laidOut orc0_ok mixed (by kernel_rfl)) f87_un f87_un_ok [] (fun _=>rfl)
   (fun x ret=>f87_eq k  ret)

/- catchpole/deriv.none -/
noncomputable def f86_I:Unit→List SV × Obs:=fun x=>([],[])
noncomputable def f86_D:List SV→Obs→Option (Unit)
 | [],[]=>some ()
 | _,_=>none
theorem f86_D_ok (args:List SV)(B:Obs)(x:Unit)(h:f86_D args B=some x):f86_I x=(args,B):=by
 unfold f86_D at h
 split at h
 ·injection h with h;subst h;rfl
 ·cases h
noncomputable def f86_O:PV→Out:=(fun y=>([.val 27 y],[]))
noncomputable def f86_un:Out→Option (PV)
 | ([.val 27 y0],[])=>some y0
 | _=>none
theorem f86_un_ok (o:Out)(y:PV)(h:f86_un o=some y):o=f86_O y:=by
 unfold f86_un at h
 split at h
 ·injection h with h;subst h;rfl
 ·cases h
noncomputable def f86_msk:Nat→Option (List Nat):=fun key=> none
noncomputable def f86_C:Oracle:=orc0
noncomputable def f86_E (k:Nat):Env:={ P:=Try.prog,nilOwn:=fun d=>false,fldOwn:=fun d i=>false,ownPar:=ownPars,ownRet:=false,hpD:=fun d=>false,hpF:=hpFs,hpNew:=false,mask:=f86_msk,fuel:=k,C:=f86_C }
noncomputable def f86_code:Code:=Try.f86.body.getD .skip
noncomputable def f86_e (ret0:PV→R):R :=
 ret0 (PV.agg [(PV.int 0),(PV.agg [(PV.int 0),(PV.int 0),(PV.int 0),(PV.int 0)]),(PV.int 0),(PV.list [])])

theorem f86_e_mem (k:Nat)(retF:PV→R):exec (f86_E k) f86_code (endK (f86_E k) Try.f86 [] f86_un retF) ⟨[.undef,.undef],[]⟩=f86_e (fun y0=>retF y0):=by kernel_rfl

noncomputable def f86_N (k:Nat)(ret0:PV→R):R :=
 f86_e ret0
theorem f86_eq (k:Nat)(retF:PV→R):exec (f86_E k) f86_code (endK (f86_E k) Try.f86 [] f86_un retF) ⟨[.undef,.undef],[]⟩=f86_N k (fun y0=>retF y0) :=
 (f86_e_mem k retF)

noncomputable def G86:Nat→(PV→R)→R
 | 0,_=>none
 | k+1,ret0=>f86_N k  ret0 
theorem S86:∀ k,Snd Try.prog 86 f86_I f86_O (fun x ret=>G86 k (fun y0=>ret y0))
 | 0=>snd_none
 | k+1=>snd_step (E:=f86_E k ) rfl laidOut noNums orc0_ok (f:=86) (fn:=Try.f86) (code:=f86_code) Try.func86 (by kernel_rfl) (drawsOk_of laidOut orc0_ok mixed (by kernel_rfl)) f86_un f86_un_ok [] (fun _=>rfl)
   (fun x ret=>f86_eq k  ret)

/- catchpole/deriv.two -/
noncomputable def f88_I:Int × PV × PV→List SV × Obs:=fun x=>([.int .i64 x.1,.val 27 x.2.1,.val 27 x.2.2],[])
noncomputable def f88_D:List SV→Obs→Option (Int × PV × PV)
 | [.int .i64 n1,.val 27 p2,.val 27 p3],[]=>some (n1,p2,p3)
 | _,_=>none
theorem f88_D_ok (args:List SV)(B:Obs)(x:Int × PV × PV)(h:f88_D args B=some x):f88_I x=(args,B):=by
 unfold f88_D at h
 split at h
 ·injection h with h;subst h;rfl
 ·cases h
noncomputable def f88_O:PV→Out:=(fun y=>([.val 27 y],[]))
noncomputable def f88_un:Out→Option (PV)
 | ([.val 27 y0],[])=>some y0
 | _=>none
theorem f88_un_ok (o:Out)(y:PV)(h:f88_un o=some y):o=f88_O y:=by
 unfold f88_un at h
 split at h
 ·injection h with h;subst h;rfl
 ·cases h
noncomputable def f88_msk:Nat→Option (List Nat):=fun key=> none
noncomputable def f88_C:Oracle:=orc0
noncomputable def f88_E (k:Nat):Env:={ P:=Try.prog,nilOwn:=fun d=>false,fldOwn:=fun d i=>false,ownPar:=ownPars,ownRet:=false,hpD:=fun d=>false,hpF:=hpFs,hpNew:=false,mask:=f88_msk,fuel:=k,C:=f88_C }
noncomputable def f88_code:Code:=Try.f88.body.getD .skip
noncomputable def f88_e (ret0:PV→R)(n1:Int)(p2:PV)(p3:PV):R :=
 ret0 (PV.agg [(PV.int n1),(PV.agg [(PV.int 0),(PV.int 0),(PV.int 0),(PV.int 0)]),(PV.int 0),(PV.list [p2,p3])])

theorem f88_e_mem (k:Nat)(retF:PV→R)(n1:Int)(p2:PV)(p3:PV):exec (f88_E k) f88_code (endK (f88_E k) Try.f88 [] f88_un retF) ⟨[.int .i64 n1,.val 27 p2,.val 27 p3,.undef,.undef,.undef,.undef,.undef,.undef,.undef,.undef,.undef],[]⟩=f88_e (fun y0=>retF y0) n1 p2 p3:=by kernel_rfl

noncomputable def f88_N (k:Nat)(ret0:PV→R)(n1:Int)(p2:PV)(p3:PV):R :=
 f88_e ret0 n1 p2 p3
theorem f88_eq (k:Nat)(retF:PV→R)(n1:Int)(p2:PV)(p3:PV):exec (f88_E k) f88_code (endK (f88_E k) Try.f88 [] f88_un retF) ⟨[.int .i64 n1,.val 27 p2,.val 27 p3,.undef,.undef,.undef,.undef,.undef,.undef,.undef,.undef,.undef],[]⟩=f88_N k (fun y0=>retF y0) n1 p2 p3 :=
 (f88_e_mem k retF n1 p2 p3)

noncomputable def G88:Nat→Int→PV→PV→(PV→R)→R
 | 0,_,_,_,_=>none
 | k+1,n1,p2,p3,ret0=>f88_N k  ret0 n1 p2 p3
theorem S88:∀ k,Snd Try.prog 88 f88_I f88_O (fun x ret=>G88 k x.1 x.2.1 x.2.2 (fun y0=>ret y0))
 | 0=>snd_none
 | k+1=>snd_step (E:=f88_E k ) rfl laidOut noNums orc0_ok (f:=88) (fn:=Try.f88) (code:=f88_code) Try.func88 (by kernel_rfl) (drawsOk_of laidOut orc0_ok mixed (by kernel_rfl)) f88_un f88_un_ok [] (fun _=>rfl)
   (fun x ret=>f88_eq k  ret x.1 x.2.1 x.2.2)

/- catchpole/lang.null -/
noncomputable def f65_I:PV→List SV × Obs:=fun x=>([.val 27 x],[])
noncomputable def f65_D:List SV→Obs→Option (PV)
 | [.val 27 p1],[]=>some p1
 | _,_=>none
theorem f65_D_ok (args:List SV)(B:Obs)(x:PV)(h:f65_D args B=some x):f65_I x=(args,B):=by
 unfold f65_D at h
 split at h
 ·injection h with h;subst h;rfl
 ·cases h
noncomputable def f65_O:Bool→Out:=(fun y=>([.bool y],[]))
noncomputable def f65_un:Out→Option (Bool)
 | ([.bool y0],[])=>some y0
 | _=>none
theorem f65_un_ok (o:Out)(y:Bool)(h:f65_un o=some y):o=f65_O y:=by
 unfold f65_un at h
 split at h
 ·injection h with h;subst h;rfl
 ·cases h
noncomputable def f65_msk:Nat→Option (List Nat):=fun key=> none
noncomputable def f65_C (c65:PV→(Bool→R)→R):Oracle:=orc 65 f65_D f65_O (fun x ret=>c65 x (fun y0=>ret y0)) <| orc0
noncomputable def f65_E (k:Nat)(c65:PV→(Bool→R)→R):Env:={ P:=Try.prog,nilOwn:=fun d=>false,fldOwn:=fun d i=>false,ownPar:=ownPars,ownRet:=false,hpD:=fun d=>false,hpF:=hpFs,hpNew:=false,mask:=f65_msk,fuel:=k,C:=f65_C c65 }
noncomputable def f65_code:Code:=Try.f65.body.getD .skip
noncomputable def f65_e (c65:PV→(Bool→R)→R)(ret0:Bool→R)(p1:PV):R :=
 bif (decide ((PV.num (PV.fld p1 0))=(1:Int))) then
 ret0 true
 else bif (decide ((PV.num (PV.fld p1 0))=(5:Int))) then
 ret0 true
 else bif (decide ((PV.num (PV.fld p1 0))=(3:Int))) then
 bif (true&&decide ((0:Int)≤(0:Int))&&decide ((0:Int) < (List.length (PV.els (PV.fld p1 3)):Int))) then
 c65 (List.getD (PV.els (PV.fld p1 3)) ((0:Int)).toNat PV.nil) fun b2 =>
 bif (b2==true) then
 bif (true&&decide ((0:Int)≤(1:Int))&&decide ((1:Int) < (List.length (PV.els (PV.fld p1 3)):Int))) then
 c65 (List.getD (PV.els (PV.fld p1 3)) ((1:Int)).toNat PV.nil) fun b3 =>
 ret0 b3
 else none
 else ret0 false
 else none
 else bif (decide ((PV.num (PV.fld p1 0))=(4:Int))) then
 bif (true&&decide ((0:Int)≤(0:Int))&&decide ((0:Int) < (List.length (PV.els (PV.fld p1 3)):Int))) then
 c65 (List.getD (PV.els (PV.fld p1 3)) ((0:Int)).toNat PV.nil) fun b4 =>
 bif (b4==false) then
 bif (true&&decide ((0:Int)≤(1:Int))&&decide ((1:Int) < (List.length (PV.els (PV.fld p1 3)):Int))) then
 c65 (List.getD (PV.els (PV.fld p1 3)) ((1:Int)).toNat PV.nil) fun b5 =>
 ret0 b5
 else none
 else ret0 true
 else none
 else bif (decide ((PV.num (PV.fld p1 0))=(6:Int))) then
 bif (true&&decide ((0:Int)≤(0:Int))&&decide ((0:Int) < (List.length (PV.els (PV.fld p1 3)):Int))) then
 c65 (List.getD (PV.els (PV.fld p1 3)) ((0:Int)).toNat PV.nil) fun b6 =>
 ret0 b6
 else none
 else bif (decide ((PV.num (PV.fld p1 0))=(7:Int))) then
 bif (true&&decide ((0:Int)≤(0:Int))&&decide ((0:Int) < (List.length (PV.els (PV.fld p1 3)):Int))) then
 c65 (List.getD (PV.els (PV.fld p1 3)) ((0:Int)).toNat PV.nil) fun b7 =>
 ret0 b7
 else none
 else ret0 false

theorem f65_e_mem (k:Nat)(c65:PV→(Bool→R)→R)(retF:Bool→R)(p1:PV):exec (f65_E k c65) f65_code (endK (f65_E k c65) Try.f65 [] f65_un retF) ⟨[.val 27 p1,.undef,.undef,.undef,.undef,.undef,.undef,.undef,.undef,.undef,.undef,.undef,.undef,.undef,.undef,.undef,.undef,.undef,.undef,.undef,.undef,.undef,.undef,.undef,.undef,.undef,.undef,.undef,.undef,.undef,.undef,.undef,.undef,.undef,.undef,.undef,.undef,.undef,.undef,.undef,.undef,.undef,.undef,.undef],[]⟩=f65_e c65 (fun y0=>retF y0) p1:=by kernel_rfl

noncomputable def f65_N (k:Nat)(c65:PV→(Bool→R)→R)(ret0:Bool→R)(p1:PV):R :=
 f65_e c65 ret0 p1
theorem f65_eq (k:Nat)(c65:PV→(Bool→R)→R)(retF:Bool→R)(p1:PV):exec (f65_E k c65) f65_code (endK (f65_E k c65) Try.f65 [] f65_un retF) ⟨[.val 27 p1,.undef,.undef,.undef,.undef,.undef,.undef,.undef,.undef,.undef,.undef,.undef,.undef,.undef,.undef,.undef,.undef,.undef,.undef,.undef,.undef,.undef,.undef,.undef,.undef,.undef,.undef,.undef,.undef,.undef,.undef,.undef,.undef,.undef,.undef,.undef,.undef,.undef,.undef,.undef,.undef,.undef,.undef,.undef],[]⟩=f65_N k c65 (fun y0=>retF y0) p1 :=
 (f65_e_mem k c65 retF p1)

noncomputable def G65:Nat→PV→(Bool→R)→R
 | 0,_,_=>none
 | k+1,p1,ret0=>f65_N k (G65 k) ret0 p1
theorem S65:∀ k,Snd Try.prog 65 f65_I f65_O (fun x ret=>G65 k x (fun y0=>ret y0))
 | 0=>snd_none
 | k+1=>snd_step (E:=f65_E k (G65 k)) rfl laidOut noNums (orc_ok (S65 k).o f65_D_ok orc0_ok) (f:=65) (fn:=Try.f65) (code:=f65_code) Try.func65 (by kernel_rfl) (drawsOk_of laidOut (orc_ok (S65 k).o f65_D_ok orc0_ok) mixed (by kernel_rfl)) f65_un f65_un_ok [] (fun _=>rfl)
   (fun x ret=>f65_eq k (G65 k) ret x)

/- catchpole/lang.Null -/
noncomputable def f32_I:PV→List SV × Obs:=fun x=>([.val 27 x],[])
noncomputable def f32_D:List SV→Obs→Option (PV)
 | [.val 27 p1],[]=>some p1
 | _,_=>none
theorem f32_D_ok (args:List SV)(B:Obs)(x:PV)(h:f32_D args B=some x):f32_I x=(args,B):=by
 unfold f32_D at h
 split at h
 ·injection h with h;subst h;rfl
 ·cases h
noncomputable def f32_O:Bool→Out:=(fun y=>([.bool y],[]))
noncomputable def f32_un:Out→Option (Bool)
 | ([.bool y0],[])=>some y0
 | _=>none
theorem f32_un_ok (o:Out)(y:Bool)(h:f32_un o=some y):o=f32_O y:=by
 unfold f32_un at h
 split at h
 ·injection h with h;subst h;rfl
 ·cases h
noncomputable def f32_msk:Nat→Option (List Nat):=fun key=> none
noncomputable def f32_C (c28:PV→(Bool→R)→R)(c65:PV→(Bool→R)→R):Oracle:=orc 28 f28_D f28_O (fun x ret=>c28 x (fun y0=>ret y0)) <| orc 65 f65_D f65_O (fun x ret=>c65 x (fun y0=>ret y0)) <| orc0
noncomputable def f32_E (k:Nat)(c28:PV→(Bool→R)→R)(c65:PV→(Bool→R)→R):Env:={ P:=Try.prog,nilOwn:=fun d=>false,fldOwn:=fun d i=>false,ownPar:=ownPars,ownRet:=false,hpD:=fun d=>false,hpF:=hpFs,hpNew:=false,mask:=f32_msk,fuel:=k,C:=f32_C c28 c65 }
noncomputable def f32_code:Code:=Try.f32.body.getD .skip
noncomputable def f32_e (c28:PV→(Bool→R)→R)(c65:PV→(Bool→R)→R)(ret0:Bool→R)(p1:PV):R :=
 c28 p1 fun b2 =>
 bif (b2==true) then
 c65 p1 fun b3 =>
 ret0 b3
 else ret0 false

theorem f32_e_mem (k:Nat)(c28:PV→(Bool→R)→R)(c65:PV→(Bool→R)→R)(retF:Bool→R)(p1:PV):exec (f32_E k c28 c65) f32_code (endK (f32_E k c28 c65) Try.f32 [] f32_un retF) ⟨[.val 27 p1,.undef,.undef,.undef,.undef,.undef,.undef,.undef,.undef],[]⟩=f32_e c28 c65 (fun y0=>retF y0) p1:=by kernel_rfl

noncomputable def f32_N (k:Nat)(c28:PV→(Bool→R)→R)(c65:PV→(Bool→R)→R)(ret0:Bool→R)(p1:PV):R :=
 f32_e c28 c65 ret0 p1
theorem f32_eq (k:Nat)(c28:PV→(Bool→R)→R)(c65:PV→(Bool→R)→R)(retF:Bool→R)(p1:PV):exec (f32_E k c28 c65) f32_code (endK (f32_E k c28 c65) Try.f32 [] f32_un retF) ⟨[.val 27 p1,.undef,.undef,.undef,.undef,.undef,.undef,.undef,.undef],[]⟩=f32_N k c28 c65 (fun y0=>retF y0) p1 :=
 (f32_e_mem k c28 c65 retF p1)

noncomputable def G32:Nat→PV→(Bool→R)→R
 | 0,_,_=>none
 | k+1,p1,ret0=>f32_N k (G28 k) (G65 k) ret0 p1
theorem S32:∀ k,Snd Try.prog 32 f32_I f32_O (fun x ret=>G32 k x (fun y0=>ret y0))
 | 0=>snd_none
 | k+1=>snd_step (E:=f32_E k (G28 k) (G65 k)) rfl laidOut noNums (orc_ok (S28 k).o f28_D_ok (orc_ok (S65 k).o f65_D_ok orc0_ok)) (f:=32) (fn:=Try.f32) (code:=f32_code) Try.func32 (by kernel_rfl) (drawsOk_of laidOut (orc_ok (S28 k).o f28_D_ok (orc_ok (S65 k).o f65_D_ok orc0_ok)) mixed (by kernel_rfl)) f32_un f32_un_ok [] (fun _=>rfl)
   (fun x ret=>f32_eq k (G28 k) (G65 k) ret x)

/- catchpole/deriv.by -/
noncomputable def f59_I:PV × Int→List SV × Obs:=fun x=>([.val 27 x.1,.int .u8 x.2],[])
noncomputable def f59_D:List SV→Obs→Option (PV × Int)
 | [.val 27 p1,.int .u8 n2],[]=>some (p1,n2)
 | _,_=>none
theorem f59_D_ok (args:List SV)(B:Obs)(x:PV × Int)(h:f59_D args B=some x):f59_I x=(args,B):=by
 unfold f59_D at h
 split at h
 ·injection h with h;subst h;rfl
 ·cases h
noncomputable def f59_O:PV→Out:=(fun y=>([.val 27 y],[]))
noncomputable def f59_un:Out→Option (PV)
 | ([.val 27 y0],[])=>some y0
 | _=>none
theorem f59_un_ok (o:Out)(y:PV)(h:f59_un o=some y):o=f59_O y:=by
 unfold f59_un at h
 split at h
 ·injection h with h;subst h;rfl
 ·cases h
noncomputable def f59_msk:Nat→Option (List Nat):=fun key=> none
noncomputable def f59_C (c31:PV→Int→(Bool→R)→R)(c32:PV→(Bool→R)→R)(c59:PV→Int→(PV→R)→R)(c86:(PV→R)→R)(c87:(PV→R)→R)(c88:Int→PV→PV→(PV→R)→R):Oracle:=orc 31 f31_D f31_O (fun x ret=>c31 x.1 x.2 (fun y0=>ret y0)) <| orc 32 f32_D f32_O (fun x ret=>c32 x (fun y0=>ret y0)) <| orc 59 f59_D f59_O (fun x ret=>c59 x.1 x.2 (fun y0=>ret y0)) <| orc 86 f86_D f86_O (fun x ret=>c86 (fun y0=>ret y0)) <| orc 87 f87_D f87_O (fun x ret=>c87 (fun y0=>ret y0)) <| orc 88 f88_D f88_O (fun x ret=>c88 x.1 x.2.1 x.2.2 (fun y0=>ret y0)) <| orc0
noncomputable def f59_E (k:Nat)(c31:PV→Int→(Bool→R)→R)(c32:PV→(Bool→R)→R)(c59:PV→Int→(PV→R)→R)(c86:(PV→R)→R)(c87:(PV→R)→R)(c88:Int→PV→PV→(PV→R)→R):Env:={ P:=Try.prog,nilOwn:=fun d=>false,fldOwn:=fun d i=>false,ownPar:=ownPars,ownRet:=false,hpD:=fun d=>false,hpF:=hpFs,hpNew:=false,mask:=f59_msk,fuel:=k,C:=f59_C c31 c32 c59 c86 c87 c88 }
noncomputable def f59_code:Code:=Try.f59.body.getD .skip
noncomputable def f59_e (c31:PV→Int→(Bool→R)→R)(c32:PV→(Bool→R)→R)(c59:PV→Int→(PV→R)→R)(c86:(PV→R)→R)(c87:(PV→R)→R)(c88:Int→PV→PV→(PV→R)→R)(ret0:PV→R)(p1:PV)(n2:Int):R :=
 bif (decide ((PV.num (PV.fld p1 0))=(2:Int))) then
 c31 (PV.fld p1 1) n2 fun b3 =>
 bif b3 then
 c87 fun p4 =>
 ret0 p4
 else c86 fun p5 =>
 ret0 p5
 else bif (decide ((PV.num (PV.fld p1 0))=(3:Int))) then
 bif (true&&decide ((0:Int)≤(0:Int))&&decide ((0:Int) < (List.length (PV.els (PV.fld p1 3)):Int))) then
 c59 (List.getD (PV.els (PV.fld p1 3)) ((0:Int)).toNat PV.nil) n2 fun p6 =>
 bif (true&&decide ((0:Int)≤(1:Int))&&decide ((1:Int) < (List.length (PV.els (PV.fld p1 3)):Int))) then
 c88 3 p6 (List.getD (PV.els (PV.fld p1 3)) ((1:Int)).toNat PV.nil) fun p7 =>
 bif (true&&decide ((0:Int)≤(0:Int))&&decide ((0:Int) < (List.length (PV.els (PV.fld p1 3)):Int))) then
 c32 (List.getD (PV.els (PV.fld p1 3)) ((0:Int)).toNat PV.nil) fun b8 =>
 bif b8 then
 bif (true&&decide ((0:Int)≤(1:Int))&&decide ((1:Int) < (List.length (PV.els (PV.fld p1 3)):Int))) then
 c59 (List.getD (PV.els (PV.fld p1 3)) ((1:Int)).toNat PV.nil) n2 fun p9 =>
 c88 4 p7 p9 fun p10 =>
 ret0 p10
 else none
 else ret0 p7
 else none
 else none
 else none
 else bif (decide ((PV.num (PV.fld p1 0))=(4:Int))) then
 bif (true&&decide ((0:Int)≤(0:Int))&&decide ((0:Int) < (List.length (PV.els (PV.fld p1 3)):Int))) then
 c59 (List.getD (PV.els (PV.fld p1 3)) ((0:Int)).toNat PV.nil) n2 fun p11 =>
 bif (true&&decide ((0:Int)≤(1:Int))&&decide ((1:Int) < (List.length (PV.els (PV.fld p1 3)):Int))) then
 c59 (List.getD (PV.els (PV.fld p1 3)) ((1:Int)).toNat PV.nil) n2 fun p12 =>
 c88 4 p11 p12 fun p13 =>
 ret0 p13
 else none
 else none
 else bif (decide ((PV.num (PV.fld p1 0))=(5:Int))) then
 bif (true&&decide ((0:Int)≤(0:Int))&&decide ((0:Int) < (List.length (PV.els (PV.fld p1 3)):Int))) then
 c59 (List.getD (PV.els (PV.fld p1 3)) ((0:Int)).toNat PV.nil) n2 fun p14 =>
 c88 3 p14 p1 fun p15 =>
 ret0 p15
 else none
 else bif (decide ((PV.num (PV.fld p1 0))=(6:Int))) then
 bif (true&&decide ((0:Int)≤(0:Int))&&decide ((0:Int) < (List.length (PV.els (PV.fld p1 3)):Int))) then
 c59 (List.getD (PV.els (PV.fld p1 3)) ((0:Int)).toNat PV.nil) n2 fun p16 =>
 ret0 p16
 else none
 else bif (decide ((PV.num (PV.fld p1 0))=(7:Int))) then
 bif (true&&decide ((0:Int)≤(0:Int))&&decide ((0:Int) < (List.length (PV.els (PV.fld p1 3)):Int))) then
 c59 (List.getD (PV.els (PV.fld p1 3)) ((0:Int)).toNat PV.nil) n2 fun p17 =>
 ret0 p17
 else none
 else c86 fun p18 =>
 ret0 p18

theorem f59_e_mem (k:Nat)(c31:PV→Int→(Bool→R)→R)(c32:PV→(Bool→R)→R)(c59:PV→Int→(PV→R)→R)(c86:(PV→R)→R)(c87:(PV→R)→R)(c88:Int→PV→PV→(PV→R)→R)(retF:PV→R)(p1:PV)(n2:Int):exec (f59_E k c31 c32 c59 c86 c87 c88) f59_code (endK (f59_E k c31 c32 c59 c86 c87 c88) Try.f59 [] f59_un retF) ⟨[.val 27 p1,.int .u8 n2,.undef,.undef,.undef,.undef,.undef,.undef,.undef,.undef,.undef,.undef,.undef,.undef,.undef,.undef,.undef,.undef,.undef,.undef,.undef,.undef,.undef,.undef,.undef,.undef,.undef,.undef,.undef,.undef,.undef,.undef,.undef,.undef,.undef,.undef,.undef,.undef,.undef,.undef,.undef,.undef,.undef,.undef,.undef,.undef,.undef,.undef,.undef,.undef,.undef,.undef,.undef,.undef,.undef,.undef,.undef,.undef,.undef,.undef,.undef,.undef,.undef,.undef,.undef,.undef,.undef,.undef,.undef,.undef,.undef,.undef,.undef,.undef,.undef,.undef,.undef],[]⟩=f59_e c31 c32 c59 c86 c87 c88 (fun y0=>retF y0) p1 n2:=by kernel_rfl

noncomputable def f59_N (k:Nat)(c31:PV→Int→(Bool→R)→R)(c32:PV→(Bool→R)→R)(c59:PV→Int→(PV→R)→R)(c86:(PV→R)→R)(c87:(PV→R)→R)(c88:Int→PV→PV→(PV→R)→R)(ret0:PV→R)(p1:PV)(n2:Int):R :=
 f59_e c31 c32 c59 c86 c87 c88 ret0 p1 n2
theorem f59_eq (k:Nat)(c31:PV→Int→(Bool→R)→R)(c32:PV→(Bool→R)→R)(c59:PV→Int→(PV→R)→R)(c86:(PV→R)→R)(c87:(PV→R)→R)(c88:Int→PV→PV→(PV→R)→R)(retF:PV→R)(p1:PV)(n2:Int):exec (f59_E k c31 c32 c59 c86 c87 c88) f59_code (endK (f59_E k c31 c32 c59 c86 c87 c88) Try.f59 [] f59_un retF) ⟨[.val 27 p1,.int .u8 n2,.undef,.undef,.undef,.undef,.undef,.undef,.undef,.undef,.undef,.undef,.undef,.undef,.undef,.undef,.undef,.undef,.undef,.undef,.undef,.undef,.undef,.undef,.undef,.undef,.undef,.undef,.undef,.undef,.undef,.undef,.undef,.undef,.undef,.undef,.undef,.undef,.undef,.undef,.undef,.undef,.undef,.undef,.undef,.undef,.undef,.undef,.undef,.undef,.undef,.undef,.undef,.undef,.undef,.undef,.undef,.undef,.undef,.undef,.undef,.undef,.undef,.undef,.undef,.undef,.undef,.undef,.undef,.undef,.undef,.undef,.undef,.undef,.undef,.undef,.undef],[]⟩=f59_N k c31 c32 c59 c86 c87 c88 (fun y0=>retF y0) p1 n2 :=
 (f59_e_mem k c31 c32 c59 c86 c87 c88 retF p1 n2)

noncomputable def G59:Nat→PV→Int→(PV→R)→R
 | 0,_,_,_=>none
 | k+1,p1,n2,ret0=>f59_N k (G31 k) (G32 k) (G59 k) (G86 k) (G87 k) (G88 k) ret0 p1 n2
theorem S59:∀ k,Snd Try.prog 59 f59_I f59_O (fun x ret=>G59 k x.1 x.2 (fun y0=>ret y0))
 | 0=>snd_none
 | k+1=>snd_step (E:=f59_E k (G31 k) (G32 k) (G59 k) (G86 k) (G87 k) (G88 k)) rfl laidOut noNums (orc_ok (S31 k).o f31_D_ok (orc_ok (S32 k).o f32_D_ok (orc_ok (S59 k).o f59_D_ok (orc_ok (S86 k).o f86_D_ok (orc_ok (S87 k).o f87_D_ok (orc_ok (S88 k).o f88_D_ok orc0_ok)))))) (f:=59) (fn:=Try.f59) (code:=f59_code) Try.func59 (by kernel_rfl) (drawsOk_of laidOut (orc_ok (S31 k).o f31_D_ok (orc_ok (S32 k).o f32_D_ok (orc_ok (S59 k).o f59_D_ok (orc_ok (S86 k).o f86_D_ok (orc_ok (S87 k).o f87_D_ok (orc_ok (S88 k).o f88_D_ok orc0_ok)))))) mixed (by kernel_rfl)) f59_un f59_un_ok [] (fun _=>rfl)
   (fun x ret=>f59_eq k (G31 k) (G32 k) (G59 k) (G86 k) (G87 k) (G88 k) ret x.1 x.2)

/- math/bits.OnesCount64 -/
noncomputable def f111_I:Int→List SV × Obs:=fun x=>([.int .u64 x],[])
noncomputable def f111_D:List SV→Obs→Option (Int)
 | [.int .u64 n1],[]=>some n1
 | _,_=>none
theorem f111_D_ok (args:List SV)(B:Obs)(x:Int)(h:f111_D args B=some x):f111_I x=(args,B):=by
 unfold f111_D at h
 split at h
 ·injection h with h;subst h;rfl
 ·cases h
noncomputable def f111_O:Int→Out:=(fun y=>([.int .i64 y],[]))
noncomputable def f111_un:Out→Option (Int)
 | ([.int .i64 y0],[])=>some y0
 | _=>none
theorem f111_un_ok (o:Out)(y:Int)(h:f111_un o=some y):o=f111_O y:=by
 unfold f111_un at h
 split at h
 ·injection h with h;subst h;rfl
 ·cases h
noncomputable def f111_msk:Nat→Option (List Nat):=fun key=> none
noncomputable def f111_C:Oracle:=orc0
noncomputable def f111_E (k:Nat):Env:={ P:=Try.prog,nilOwn:=fun d=>false,fldOwn:=fun d i=>false,ownPar:=ownPars,ownRet:=false,hpD:=fun d=>false,hpF:=hpFs,hpNew:=false,mask:=f111_msk,fuel:=k,C:=f111_C }
noncomputable def f111_code:Code:=Try.f111.body.getD .skip
noncomputable def f111_e (ret0:Int→R)(n1:Int):R :=
 let n2:Int:=(IntKind.wrap .u64 ((intBit .and .u64 (Int.fdiv n1 (2 ^ (min ((1:Int)).toNat 64))) 6148914691236517205)+(intBit .and .u64 n1 6148914691236517205)))
 let n3:Int:=(IntKind.wrap .u64 ((intBit .and .u64 (Int.fdiv n2 (2 ^ (min ((2:Int)).toNat 64))) 3689348814741910323)+(intBit .and .u64 n2 3689348814741910323)))
 let n4:Int:=(intBit .and .u64 (IntKind.wrap .u64 ((Int.fdiv n3 (2 ^ (min ((4:Int)).toNat 64)))+n3)) 1085102592571150095)
 let n5:Int:=(Int.fdiv (IntKind.wrap .u64 (n4+(Int.fdiv n4 (2 ^ (min ((8:Int)).toNat 64))))) (2 ^ (min ((16:Int)).toNat 64)))
 let n6:Int:=(Int.fdiv (IntKind.wrap .u64 ((IntKind.wrap .u64 (n4+(Int.fdiv n4 (2 ^ (min ((8:Int)).toNat 64)))))+n5)) (2 ^ (min ((32:Int)).toNat 64)))
 let n7:Int:=(IntKind.wrap .u64 ((IntKind.wrap .u64 ((IntKind.wrap .u64 (n4+(Int.fdiv n4 (2 ^ (min ((8:Int)).toNat 64)))))+n5))+n6))
 ret0 (intBit .and .i64 (IntKind.wrap .i64 n7) 127)

theorem f111_e_mem (k:Nat)(retF:Int→R)(n1:Int):exec (f111_E k) f111_code (endK (f111_E k) Try.f111 [] f111_un retF) ⟨[.int .u64 n1,.undef,.undef,.undef,.undef,.undef,.undef,.undef,.undef,.undef,.undef,.undef,.undef,.undef,.undef,.undef,.undef,.undef,.undef,.undef,.undef,.undef,.undef,.undef,.undef,.undef,.undef,.undef,.undef,.undef,.undef,.undef,.undef,.undef,.undef],[]⟩=f111_e (fun y0=>retF y0) n1:=by kernel_rfl

noncomputable def f111_N (k:Nat)(ret0:Int→R)(n1:Int):R :=
 f111_e ret0 n1
theorem f111_eq (k:Nat)(retF:Int→R)(n1:Int):exec (f111_E k) f111_code (endK (f111_E k) Try.f111 [] f111_un retF) ⟨[.int .u64 n1,.undef,.undef,.undef,.undef,.undef,.undef,.undef,.undef,.undef,.undef,.undef,.undef,.undef,.undef,.undef,.undef,.undef,.undef,.undef,.undef,.undef,.undef,.undef,.undef,.undef,.undef,.undef,.undef,.undef,.undef,.undef,.undef,.undef,.undef],[]⟩=f111_N k (fun y0=>retF y0) n1 :=
 (f111_e_mem k retF n1)

noncomputable def G111:Nat→Int→(Int→R)→R
 | 0,_,_=>none
 | k+1,n1,ret0=>f111_N k  ret0 n1
theorem S111:∀ k,Snd Try.prog 111 f111_I f111_O (fun x ret=>G111 k x (fun y0=>ret y0))
 | 0=>snd_none
 | k+1=>snd_step (E:=f111_E k ) rfl laidOut noNums orc0_ok (f:=111) (fn:=Try.f111) (code:=f111_code) Try.func111 (by kernel_rfl) (drawsOk_of laidOut orc0_ok mixed (by kernel_rfl)) f111_un f111_un_ok [] (fun _=>rfl)
   (fun x ret=>f111_eq k  ret x)

/- (catchpole/byteset.Set).Len -/
noncomputable def f85_I:PV→List SV × Obs:=fun x=>([.val 24 x],[])
noncomputable def f85_D:List SV→Obs→Option (PV)
 | [.val 24 p1],[]=>some p1
 | _,_=>none
theorem f85_D_ok (args:List SV)(B:Obs)(x:PV)(h:f85_D args B=some x):f85_I x=(args,B):=by
 unfold f85_D at h
 split at h
 ·injection h with h;subst h;rfl
 ·cases h
noncomputable def f85_O:Int→Out:=(fun y=>([.int .i64 y],[]))
noncomputable def f85_un:Out→Option (Int)
 | ([.int .i64 y0],[])=>some y0
 | _=>none
theorem f85_un_ok (o:Out)(y:Int)(h:f85_un o=some y):o=f85_O y:=by
 unfold f85_un at h
 split at h
 ·injection h with h;subst h;rfl
 ·cases h
noncomputable def f85_msk:Nat→Option (List Nat):=fun key=>bif key==9 then some [3,6,7] else none
noncomputable def f85_C (c111:Int→(Int→R)→R):Oracle:=orc 111 f111_D f111_O (fun x ret=>c111 x (fun y0=>ret y0)) <| orc0
noncomputable def f85_E (k:Nat)(c111:Int→(Int→R)→R):Env:={ P:=Try.prog,nilOwn:=fun d=>false,fldOwn:=fun d i=>false,ownPar:=ownPars,ownRet:=false,hpD:=fun d=>false,hpF:=hpFs,hpNew:=false,mask:=f85_msk,fuel:=k,C:=f85_C c111 }
noncomputable def f85_code:Code:=Try.f85.body.getD .skip
noncomputable def f85_cw1:Code:=subC f85_code [1,1,0,1,0,0]
noncomputable def f85_hw1_0 (p1:PV)(n3:Int)(n4:Int):St:=⟨[.dead,.dead,.dead,.int .i64 n3,.dead,.dead,.val 24 p1,.int .i64 n4,.dead,.dead,.dead,.dead,.dead,.dead,.dead,.dead],[]⟩
noncomputable def f85_w1A (k:Nat)(c111:Int→(Int→R)→R)(retF:Int→R)(p1:PV)(n3:Int)(n4:Int):R:=loopM (f85_E k c111) f85_cw1 (kont (f85_E k c111) f85_code [1,1,0,1,0] (endK (f85_E k c111) Try.f85 [] f85_un retF)) k (f85_hw1_0 p1 n3 n4)
noncomputable def f85_w1b0 (c111:Int→(Int→R)→R)(ret0:Int→R)(next_w1_0:Int→Int→R)(p1:PV)(n3:Int)(n4:Int):R :=
 bif (decide (n4 < (4:Int))) then
 bif (true&&decide ((0:Int)≤n4)&&decide (n4 < 4)) then
 c111 (PV.num (PV.fld p1 (n4).toNat)) fun n5 =>
 next_w1_0 (IntKind.wrap .i64 (n3+n5)) (IntKind.wrap .i64 (n4+(1:Int)))
 else none
 else ret0 n3

theorem f85_w1b0_mem (k:Nat)(c111:Int→(Int→R)→R)(retF:Int→R)(NX_w1:St→R)(p1:PV)(n3:Int)(n4:Int):exec (f85_E k c111) f85_cw1 (purgeK (f85_E k c111) f85_cw1 (loopK NX_w1 (kont (f85_E k c111) f85_code [1,1,0,1,0] (endK (f85_E k c111) Try.f85 [] f85_un retF)))) (f85_hw1_0 p1 n3 n4)=f85_w1b0 c111 (fun y0=>retF y0) (fun n3 n4=>NX_w1 (f85_hw1_0 p1 n3 n4)) p1 n3 n4:=by kernel_rfl

noncomputable def f85_w1b0N (k:Nat)(c111:Int→(Int→R)→R)(ret0:Int→R)(next_w1_0:Int→Int→R)(p1:PV)(n3:Int)(n4:Int):R :=
 f85_w1b0 c111 ret0 next_w1_0 p1 n3 n4
theorem f85_w1b0_eq (k:Nat)(c111:Int→(Int→R)→R)(retF:Int→R)(NX_w1:St→R)(p1:PV)(n3:Int)(n4:Int):exec (f85_E k c111) f85_cw1 (purgeK (f85_E k c111) f85_cw1 (loopK NX_w1 (kont (f85_E k c111) f85_code [1,1,0,1,0] (endK (f85_E k c111) Try.f85 [] f85_un retF)))) (f85_hw1_0 p1 n3 n4)=f85_w1b0N k c111 (fun y0=>retF y0) (fun n3 n4=>NX_w1 (f85_hw1_0 p1 n3 n4)) p1 n3 n4 :=
 (f85_w1b0_mem k c111 retF NX_w1 p1 n3 n4)

noncomputable def f85_w1B (k:Nat)(c111:Int→(Int→R)→R)(ret0:Int→R)(p1:PV)(nx:Int × Int→R):Int × Int→R:=(fun s=>f85_w1b0N k c111 ret0 (fun n3 n4=>nx (n3,n4)) p1 s.1 s.2)
noncomputable def f85_w1N (k:Nat)(c111:Int→(Int→R)→R)(ret0:Int→R)(p1:PV)(n3:Int)(n4:Int):R:=loopR (f85_w1B k c111 ret0 p1) k (n3,n4)
theorem f85_w1_eq (k:Nat)(c111:Int→(Int→R)→R)(retF:Int→R)(p1:PV)(n3:Int)(n4:Int):f85_w1A k c111 retF p1 n3 n4=f85_w1N k c111 (fun y0=>retF y0) p1 n3 n4 :=
 Eq.mp (by kernel_rfl) (loop_sim (E:=(f85_E k c111)) (c:=f85_cw1) (K:=(kont (f85_E k c111) f85_code [1,1,0,1,0] (endK (f85_E k c111) Try.f85 [] f85_un retF))) (S:=Int × Int) (fun s=>f85_hw1_0 p1 s.1 s.2) (f85_w1B k c111 (fun y0=>retF y0) p1) (fun NX s=>by
  exact Eq.mp (by kernel_rfl) (f85_w1b0_eq k c111 retF NX p1 s.1 s.2)) k (n3,n4))

noncomputable def f85_e (c111:Int→(Int→R)→R)(ret0:Int→R)(w1:Int→Int→R)(p1:PV):R :=
 w1 0 0

theorem f85_e_mem (k:Nat)(c111:Int→(Int→R)→R)(retF:Int→R)(p1:PV):exec (f85_E k c111) f85_code (endK (f85_E k c111) Try.f85 [] f85_un retF) ⟨[.val 24 p1,.undef,.undef,.undef,.undef,.undef,.undef,.undef,.undef,.undef,.undef,.undef,.undef,.undef,.undef,.undef],[]⟩=f85_e c111 (fun y0=>retF y0) (fun n3 n4=>f85_w1A k c111 retF p1 n3 n4) p1:=by kernel_rfl

noncomputable def f85_N (k:Nat)(c111:Int→(Int→R)→R)(ret0:Int→R)(p1:PV):R :=
 f85_e c111 ret0 (fun n3 n4=>f85_w1N k c111 ret0 p1 n3 n4) p1
theorem f85_eq (k:Nat)(c111:Int→(Int→R)→R)(retF:Int→R)(p1:PV):exec (f85_E k c111) f85_code (endK (f85_E k c111) Try.f85 [] f85_un retF) ⟨[.val 24 p1,.undef,.undef,.undef,.undef,.undef,.undef,.undef,.undef,.undef,.undef,.undef,.undef,.undef,.undef,.undef],[]⟩=f85_N k c111 (fun y0=>retF y0) p1 :=
 (f85_e_mem k c111 retF p1).trans (by rw [show (fun n3 n4=>f85_w1A k c111 retF p1 n3 n4)=(fun n3 n4=>f85_w1N k c111 (fun y0=>retF y0) p1 n3 n4) from funext fun n3=>funext fun n4=>f85_w1_eq k c111 retF p1 n3 n4];rfl)

noncomputable def G85:Nat→PV→(Int→R)→R
 | 0,_,_=>none
 | k+1,p1,ret0=>f85_N k (G111 k) ret0 p1
theorem S85:∀ k,Snd Try.prog 85 f85_I f85_O (fun x ret=>G85 k x (fun y0=>ret y0))
 | 0=>snd_none
 | k+1=>snd_step (E:=f85_E k (G111 k)) rfl laidOut noNums (orc_ok (S111 k).o f111_D_ok orc0_ok) (f:=85) (fn:=Try.f85) (code:=f85_code) Try.func85 (by kernel_rfl) (drawsOk_of laidOut (orc_ok (S111 k).o f111_D_ok orc0_ok) mixed (by kernel_rfl)) f85_un f85_un_ok [] (fun _=>rfl)
   (fun x ret=>f85_eq k (G111 k) ret x)

/- catchpole/deriv.tidy$1 -/
noncomputable def f84_I:Int × Int × (List PV)→List SV × Obs:=fun x=>([.int .i64 x.1,.int .i64 x.2.1,.ptr 6000000 []],[(6000000,.box 25 (.own 25 6000001)),(6000001,.row 27 x.2.2)])
noncomputable def f84_D:List SV→Obs→Option (Int × Int × (List PV))
 | [.int .i64 n1,.int .i64 n2,.ptr 6000000 []],[(6000000,.box 25 (.own 25 6000001)),(6000001,.row 27 l3)]=>some (n1,n2,l3)
 | _,_=>none
theorem f84_D_ok (args:List SV)(B:Obs)(x:Int × Int × (List PV))(h:f84_D args B=some x):f84_I x=(args,B):=by
 unfold f84_D at h
 split at h
 ·injection h with h;subst h;rfl
 ·cases h
noncomputable def f84_O:Bool × (List PV)→Out:=(fun y=>([.bool y.1],[(6000000,.box 25 (.own 25 6000001)),(6000001,.row 27 y.2)]))
noncomputable def f84_un:Out→Option (Bool × (List PV))
 | ([.bool y0],[(6000000,.box 25 (.own 25 6000001)),(6000001,.row 27 y1)])=>some (y0,y1)
 | _=>none
theorem f84_un_ok (o:Out)(y:Bool × (List PV))(h:f84_un o=some y):o=f84_O y:=by
 unfold f84_un at h
 split at h
 ·injection h with h;subst h;rfl
 ·cases h
noncomputable def f84_msk:Nat→Option (List Nat):=fun key=> none
noncomputable def f84_C:Oracle:=orc0
noncomputable def f84_E (k:Nat):Env:={ P:=Try.prog,nilOwn:=fun d=>false,fldOwn:=fun d i=>false,ownPar:=ownPars,ownRet:=false,hpD:=fun d=>false,hpF:=hpFs,hpNew:=false,mask:=f84_msk,fuel:=k,C:=f84_C }
noncomputable def f84_code:Code:=Try.f84.body.getD .skip
noncomputable def f84_e (ret0:Bool→(List PV)→R)(n1:Int)(n2:Int)(l3:List PV):R :=
 bif (true&&true&&decide ((0:Int)≤n1)&&decide (n1 < (List.length l3:Int))) then
 ret0 (decide ((PV.num (PV.fld (List.getD l3 (n1).toNat PV.nil) 0))=n2)) l3
 else none

theorem f84_e_mem (k:Nat)(retF:Bool × (List PV)→R)(n1:Int)(n2:Int)(l3:List PV):exec (f84_E k) f84_code (endK (f84_E k) Try.f84 [6000000,6000001] f84_un retF) ⟨[.int .i64 n1,.int .i64 n2,.ptr 6000000 [],.undef,.undef,.undef,.undef,.undef,.undef,.undef,.undef,.undef,.undef],[(6000000,.box 25 (.own 25 6000001)),(6000001,.row 27 l3)]⟩=f84_e (fun y0 y1=>retF (y0,y1)) n1 n2 l3:=by kernel_rfl

noncomputable def f84_N (k:Nat)(ret0:Bool→(List PV)→R)(n1:Int)(n2:Int)(l3:List PV):R :=
 f84_e ret0 n1 n2 l3
theorem f84_eq (k:Nat)(retF:Bool × (List PV)→R)(n1:Int)(n2:Int)(l3:List PV):exec (f84_E k) f84_code (endK (f84_E k) Try.f84 [6000000,6000001] f84_un retF) ⟨[.int .i64 n1,.int .i64 n2,.ptr 6000000 [],.undef,.undef,.undef,.undef,.undef,.undef,.undef,.undef,.undef,.undef],[(6000000,.box 25 (.own 25 6000001)),(6000001,.row 27 l3)]⟩=f84_N k (fun y0 y1=>retF (y0,y1)) n1 n2 l3 :=
 (f84_e_mem k retF n1 n2 l3)

noncomputable def G84:Nat→Int→Int→(List PV)→(Bool→(List PV)→R)→R
 | 0,_,_,_,_=>none
 | k+1,n1,n2,l3,ret0=>f84_N k  ret0 n1 n2 l3
theorem S84:∀ k,Snd Try.prog 84 f84_I f84_O (fun x ret=>G84 k x.1 x.2.1 x.2.2 (fun y0 y1=>ret (y0,y1)))
 | 0=>snd_none
 | k+1=>snd_step (E:=f84_E k ) rfl laidOut noNums orc0_ok (f:=84) (fn:=Try.f84) (code:=f84_code) Try.func84 (by kernel_rfl) (drawsOk_of laidOut orc0_ok mixed (by kernel_rfl)) f84_un f84_un_ok [6000000,6000001] (fun _=>rfl)
   (fun x ret=>f84_eq k  ret x.1 x.2.1 x.2.2)

/- slices.EqualFunc[[]catchpole/core.Core,[]catchpole/core.Core,catchpole/core.Core,catchpole/core.Core] -/
noncomputable def f58_I:PV × PV→List SV × Obs:=fun x=>([.val 25 x.1,.val 25 x.2,.fn 18 []],[])
noncomputable def f58_D:List SV→Obs→Option (PV × PV)
 | [.val 25 p1,.val 25 p2,.fn 18 []],[]=>some (p1,p2)
 | _,_=>none
theorem f58_D_ok (args:List SV)(B:Obs)(x:PV × PV)(h:f58_D args B=some x):f58_I x=(args,B):=by
 unfold f58_D at h
 split at h
 ·injection h with h;subst h;rfl
 ·cases h
noncomputable def f58_O:Bool→Out:=(fun y=>([.bool y],[]))
noncomputable def f58_un:Out→Option (Bool)
 | ([.bool y0],[])=>some y0
 | _=>none
theorem f58_un_ok (o:Out)(y:Bool)(h:f58_un o=some y):o=f58_O y:=by
 unfold f58_un at h
 split at h
 ·injection h with h;subst h;rfl
 ·cases h
/- catchpole/core.Same -/
noncomputable def f18_I:PV × PV→List SV × Obs:=fun x=>([.val 27 x.1,.val 27 x.2],[])
noncomputable def f18_D:List SV→Obs→Option (PV × PV)
 | [.val 27 p1,.val 27 p2],[]=>some (p1,p2)
 | _,_=>none
theorem f18_D_ok (args:List SV)(B:Obs)(x:PV × PV)(h:f18_D args B=some x):f18_I x=(args,B):=by
 unfold f18_D at h
 split at h
 ·injection h with h;subst h;rfl
 ·cases h
noncomputable def f18_O:Bool→Out:=(fun y=>([.bool y],[]))
noncomputable def f18_un:Out→Option (Bool)
 | ([.bool y0],[])=>some y0
 | _=>none
theorem f18_un_ok (o:Out)(y:Bool)(h:f18_un o=some y):o=f18_O y:=by
 unfold f18_un at h
 split at h
 ·injection h with h;subst h;rfl
 ·cases h
noncomputable def f58_msk:Nat→Option (List Nat):=fun key=>bif key==12 then some [1,2,15,16,17] else none
noncomputable def f58_C (c18:PV→PV→(Bool→R)→R):Oracle:=orc 18 f18_D f18_O (fun x ret=>c18 x.1 x.2 (fun y0=>ret y0)) <| orc0
noncomputable def f58_E (k:Nat)(c18:PV→PV→(Bool→R)→R):Env:={ P:=Try.prog,nilOwn:=fun d=>false,fldOwn:=fun d i=>false,ownPar:=ownPars,ownRet:=false,hpD:=fun d=>false,hpF:=hpFs,hpNew:=false,mask:=f58_msk,fuel:=k,C:=f58_C c18 }
noncomputable def f58_code:Code:=Try.f58.body.getD .skip
noncomputable def f58_cw1:Code:=subC f58_code [1,1,0,1,0,0]
noncomputable def f58_hw1_0 (p1:PV)(p2:PV)(n4:Int):St:=⟨[.dead,.val 25 p2,.fn 18 [],.dead,.dead,.dead,.dead,.dead,.dead,.dead,.dead,.dead,.dead,.dead,.dead,.val 25 p1,.int .i64 (List.length (PV.els p1):Int),.int .i64 n4,.dead,.dead,.dead,.dead,.dead,.dead,.dead,.dead,.dead,.dead,.dead,.dead,.dead,.dead],[]⟩
noncomputable def f58_w1A (k:Nat)(c18:PV→PV→(Bool→R)→R)(retF:Bool→R)(p1:PV)(p2:PV)(n4:Int):R:=loopM (f58_E k c18) f58_cw1 (kont (f58_E k c18) f58_code [1,1,0,1,0] (endK (f58_E k c18) Try.f58 [] f58_un retF)) k (f58_hw1_0 p1 p2 n4)
noncomputable def f58_w1b0 (c18:PV→PV→(Bool→R)→R)(ret0:Bool→R)(next_w1_0:Int→R)(p1:PV)(p2:PV)(n4:Int):R :=
 bif (decide (n4 < (List.length (PV.els p1):Int))) then
 bif (true&&decide ((0:Int)≤n4)&&decide (n4 < (List.length (PV.els p1):Int))) then
 bif (true&&decide ((0:Int)≤n4)&&decide (n4 < (List.length (PV.els p2):Int))) then
 c18 (List.getD (PV.els p1) (n4).toNat PV.nil) (List.getD (PV.els p2) (n4).toNat PV.nil) fun b5 =>
 bif (!b5) then
 ret0 false
 else next_w1_0 (IntKind.wrap .i64 (n4+(1:Int)))
 else none
 else none
 else ret0 true

theorem f58_w1b0_mem (k:Nat)(c18:PV→PV→(Bool→R)→R)(retF:Bool→R)(NX_w1:St→R)(p1:PV)(p2:PV)(n4:Int):exec (f58_E k c18) f58_cw1 (purgeK (f58_E k c18) f58_cw1 (loopK NX_w1 (kont (f58_E k c18) f58_code [1,1,0,1,0] (endK (f58_E k c18) Try.f58 [] f58_un retF)))) (f58_hw1_0 p1 p2 n4)=f58_w1b0 c18 (fun y0=>retF y0) (fun n4=>NX_w1 (f58_hw1_0 p1 p2 n4)) p1 p2 n4:=by kernel_rfl

noncomputable def f58_w1b0N (k:Nat)(c18:PV→PV→(Bool→R)→R)(ret0:Bool→R)(next_w1_0:Int→R)(p1:PV)(p2:PV)(n4:Int):R :=
 f58_w1b0 c18 ret0 next_w1_0 p1 p2 n4
theorem f58_w1b0_eq (k:Nat)(c18:PV→PV→(Bool→R)→R)(retF:Bool→R)(NX_w1:St→R)(p1:PV)(p2:PV)(n4:Int):exec (f58_E k c18) f58_cw1 (purgeK (f58_E k c18) f58_cw1 (loopK NX_w1 (kont (f58_E k c18) f58_code [1,1,0,1,0] (endK (f58_E k c18) Try.f58 [] f58_un retF)))) (f58_hw1_0 p1 p2 n4)=f58_w1b0N k c18 (fun y0=>retF y0) (fun n4=>NX_w1 (f58_hw1_0 p1 p2 n4)) p1 p2 n4 :=
 (f58_w1b0_mem k c18 retF NX_w1 p1 p2 n4)

noncomputable def f58_w1B (k:Nat)(c18:PV→PV→(Bool→R)→R)(ret0:Bool→R)(p1:PV)(p2:PV)(nx:Int→R):Int→R:=(fun s=>f58_w1b0N k c18 ret0 (fun n4=>nx n4) p1 p2 s)
noncomputable def f58_w1N (k:Nat)(c18:PV→PV→(Bool→R)→R)(ret0:Bool→R)(p1:PV)(p2:PV)(n4:Int):R:=loopR (f58_w1B k c18 ret0 p1 p2) k n4
theorem f58_w1_eq (k:Nat)(c18:PV→PV→(Bool→R)→R)(retF:Bool→R)(p1:PV)(p2:PV)(n4:Int):f58_w1A k c18 retF p1 p2 n4=f58_w1N k c18 (fun y0=>retF y0) p1 p2 n4 :=
 Eq.mp (by kernel_rfl) (loop_sim (E:=(f58_E k c18)) (c:=f58_cw1) (K:=(kont (f58_E k c18) f58_code [1,1,0,1,0] (endK (f58_E k c18) Try.f58 [] f58_un retF))) (S:=Int) (fun s=>f58_hw1_0 p1 p2 s) (f58_w1B k c18 (fun y0=>retF y0) p1 p2) (fun NX s=>by
  exact Eq.mp (by kernel_rfl) (f58_w1b0_eq k c18 retF NX p1 p2 s)) k n4)

noncomputable def f58_e (c18:PV→PV→(Bool→R)→R)(ret0:Bool→R)(w1:Int→R)(p1:PV)(p2:PV):R :=
 bif (!(decide ((List.length (PV.els p1):Int)=(List.length (PV.els p2):Int)))) then
 ret0 false
 else w1 0

theorem f58_e_mem (k:Nat)(c18:PV→PV→(Bool→R)→R)(retF:Bool→R)(p1:PV)(p2:PV):exec (f58_E k c18) f58_code (endK (f58_E k c18) Try.f58 [] f58_un retF) ⟨[.val 25 p1,.val 25 p2,.fn 18 [],.undef,.undef,.undef,.undef,.undef,.undef,.undef,.undef,.undef,.undef,.undef,.undef,.undef,.undef,.undef,.undef,.undef,.undef,.undef,.undef,.undef,.undef,.undef,.undef,.undef,.undef,.undef,.undef,.undef],[]⟩=f58_e c18 (fun y0=>retF y0) (fun n4=>f58_w1A k c18 retF p1 p2 n4) p1 p2:=by kernel_rfl

noncomputable def f58_N (k:Nat)(c18:PV→PV→(Bool→R)→R)(ret0:Bool→R)(p1:PV)(p2:PV):R :=
 f58_e c18 ret0 (fun n4=>f58_w1N k c18 ret0 p1 p2 n4) p1 p2
theorem f58_eq (k:Nat)(c18:PV→PV→(Bool→R)→R)(retF:Bool→R)(p1:PV)(p2:PV):exec (f58_E k c18) f58_code (endK (f58_E k c18) Try.f58 [] f58_un retF) ⟨[.val 25 p1,.val 25 p2,.fn 18 [],.undef,.undef,.undef,.undef,.undef,.undef,.undef,.undef,.undef,.undef,.undef,.undef,.undef,.undef,.undef,.undef,.undef,.undef,.undef,.undef,.undef,.undef,.undef,.undef,.undef,.undef,.undef,.undef,.undef],[]⟩=f58_N k c18 (fun y0=>retF y0) p1 p2 :=
 (f58_e_mem k c18 retF p1 p2).trans (by rw [show (fun n4=>f58_w1A k c18 retF p1 p2 n4)=(fun n4=>f58_w1N k c18 (fun y0=>retF y0) p1 p2 n4) from funext fun n4=>f58_w1_eq k c18 retF p1 p2 n4];rfl)

noncomputable def f18_msk:Nat→Option (List Nat):=fun key=> none
noncomputable def f18_C (c58:PV→PV→(Bool→R)→R):Oracle:=orc 58 f58_D f58_O (fun x ret=>c58 x.1 x.2 (fun y0=>ret y0)) <| orc0
noncomputable def f18_E (k:Nat)(c58:PV→PV→(Bool→R)→R):Env:={ P:=Try.prog,nilOwn:=fun d=>false,fldOwn:=fun d i=>false,ownPar:=ownPars,ownRet:=false,hpD:=fun d=>false,hpF:=hpFs,hpNew:=false,mask:=f18_msk,fuel:=k,C:=f18_C c58 }
noncomputable def f18_code:Code:=Try.f18.body.getD .skip
noncomputable def f18_e (c58:PV→PV→(Bool→R)→R)(ret0:Bool→R)(p1:PV)(p2:PV):R :=
 bif ((decide ((PV.num (PV.fld p1 0))=(PV.num (PV.fld p2 0))))==true) then
 bif ((PV.beq (PV.fld p1 1) (PV.fld p2 1))==true) then
 bif ((decide ((PV.num (PV.fld p1 2))=(PV.num (PV.fld p2 2))))==true) then
 c58 (PV.fld p1 3) (PV.fld p2 3) fun b3 =>
 ret0 b3
 else ret0 false
 else ret0 false
 else ret0 false

theorem f18_e_mem (k:Nat)(c58:PV→PV→(Bool→R)→R)(retF:Bool→R)(p1:PV)(p2:PV):exec (f18_E k c58) f18_code (endK (f18_E k c58) Try.f18 [] f18_un retF) ⟨[.val 27 p1,.val 27 p2,.undef,.undef,.undef,.undef,.undef,.undef,.undef,.undef,.undef,.undef,.undef,.undef,.undef,.undef,.undef,.undef,.undef,.undef,.undef,.undef,.undef,.undef,.undef,.undef,.undef,.undef,.undef,.undef,.undef],[]⟩=f18_e c58 (fun y0=>retF y0) p1 p2:=by kernel_rfl

noncomputable def f18_N (k:Nat)(c58:PV→PV→(Bool→R)→R)(ret0:Bool→R)(p1:PV)(p2:PV):R :=
 f18_e c58 ret0 p1 p2
theorem f18_eq (k:Nat)(c58:PV→PV→(Bool→R)→R)(retF:Bool→R)(p1:PV)(p2:PV):exec (f18_E k c58) f18_code (endK (f18_E k c58) Try.f18 [] f18_un retF) ⟨[.val 27 p1,.val 27 p2,.undef,.undef,.undef,.undef,.undef,.undef,.undef,.undef,.undef,.undef,.undef,.undef,.undef,.undef,.undef,.undef,.undef,.undef,.undef,.undef,.undef,.undef,.undef,.undef,.undef,.undef,.undef,.undef,.undef],[]⟩=f18_N k c58 (fun y0=>retF y0) p1 p2 :=
 (f18_e_mem k c58 retF p1 p2)

mutual
noncomputable def G58:Nat→PV→PV→(Bool→R)→R
 | 0,_,_,_=>none
 | k+1,p1,p2,ret0=>f58_N k (G18 k) ret0 p1 p2
noncomputable def G18:Nat→PV→PV→(Bool→R)→R
 | 0,_,_,_=>none
 | k+1,p1,p2,ret0=>f18_N k (G58 k) ret0 p1 p2
end
mutual
theorem S58:∀ k,Snd Try.prog 58 f58_I f58_O (fun x ret=>G58 k x.1 x.2 (fun y0=>ret y0))
 | 0=>snd_none
 | k+1=>snd_step (E:=f58_E k (G18 k)) rfl laidOut noNums (orc_ok (S18 k).o f18_D_ok orc0_ok) (f:=58) (fn:=Try.f58) (code:=f58_code) Try.func58 (by kernel_rfl) (drawsOk_of laidOut (orc_ok (S18 k).o f18_D_ok orc0_ok) mixed (by kernel_rfl)) f58_un f58_un_ok [] (fun _=>rfl)
   (fun x ret=>f58_eq k (G18 k) ret x.1 x.2)
theorem S18:∀ k,Snd Try.prog 18 f18_I f18_O (fun x ret=>G18 k x.1 x.2 (fun y0=>ret y0))
 | 0=>snd_none
 | k+1=>snd_step (E:=f18_E k (G58 k)) rfl laidOut noNums (orc_ok (S58 k).o f58_D_ok orc0_ok) (f:=18) (fn:=Try.f18) (code:=f18_code) Try.func18 (by kernel_rfl) (drawsOk_of laidOut (orc_ok (S58 k).o f58_D_ok orc0_ok) mixed (by kernel_rfl)) f18_un f18_un_ok [] (fun _=>rfl)
   (fun x ret=>f18_eq k (G58 k) ret x.1 x.2)
end

/- catchpole/deriv.tidy -/
noncomputable def f57_I:PV→List SV × Obs:=fun x=>([.val 27 x],[])
noncomputable def f57_D:List SV→Obs→Option (PV)
 | [.val 27 p1],[]=>some p1
 | _,_=>none
theorem f57_D_ok (args:List SV)(B:Obs)(x:PV)(h:f57_D args B=some x):f57_I x=(args,B):=by
 unfold f57_D at h
 split at h
 ·injection h with h;subst h;rfl
 ·cases h
noncomputable def f57_O:PV→Out:=(fun y=>([.val 27 y],[]))
noncomputable def f57_un:Out→Option (PV)
 | ([.val 27 y0],[])=>some y0
 | _=>none
theorem f57_un_ok (o:Out)(y:PV)(h:f57_un o=some y):o=f57_O y:=by
 unfold f57_un at h
 split at h
 ·injection h with h;subst h;rfl
 ·cases h
noncomputable def f57_msk:Nat→Option (List Nat):=fun key=>bif key==9 then some [1,2,3,8,9,10] else none
noncomputable def f57_C (c18:PV→PV→(Bool→R)→R)(c57:PV→(PV→R)→R)(c84:Int→Int→(List PV)→(Bool→(List PV)→R)→R)(c85:PV→(Int→R)→R)(c86:(PV→R)→R)(c87:(PV→R)→R):Oracle:=orc 18 f18_D f18_O (fun x ret=>c18 x.1 x.2 (fun y0=>ret y0)) <| orc 57 f57_D f57_O (fun x ret=>c57 x (fun y0=>ret y0)) <| orc 84 f84_D f84_O (fun x ret=>c84 x.1 x.2.1 x.2.2 (fun y0 y1=>ret (y0,y1))) <| orc 85 f85_D f85_O (fun x ret=>c85 x (fun y0=>ret y0)) <| orc 86 f86_D f86_O (fun x ret=>c86 (fun y0=>ret y0)) <| orc 87 f87_D f87_O (fun x ret=>c87 (fun y0=>ret y0)) <| orc0
noncomputable def f57_E (k:Nat)(c18:PV→PV→(Bool→R)→R)(c57:PV→(PV→R)→R)(c84:Int→Int→(List PV)→(Bool→(List PV)→R)→R)(c85:PV→(Int→R)→R)(c86:(PV→R)→R)(c87:(PV→R)→R):Env:={ P:=Try.prog,nilOwn:=fun d=>false,fldOwn:=fun d i=>(d==3&&i==0),ownPar:=ownPars,ownRet:=false,hpD:=fun d=>false,hpF:=hpFs,hpNew:=false,mask:=f57_msk,fuel:=k,C:=f57_C c18 c57 c84 c85 c86 c87 }
noncomputable def f57_code:Code:=Try.f57.body.getD .skip
noncomputable def f57_cw1:Code:=subC f57_code [1,1,0,1,0,0]
noncomputable def f57_hw1_0 (p1:PV)(n28:Int)(l29:List PV):St:=⟨[.dead,.ptr 1 [],.ptr 2 [],.ptr 3 [],.dead,.dead,.dead,.dead,.val 25 (PV.fld p1 3),.int .i64 (List.length (PV.els (PV.fld p1 3)):Int),.int .i64 n28,.dead,.dead,.dead,.dead,.dead,.dead,.dead,.dead,.dead,.dead,.dead,.dead,.dead,.dead,.dead,.dead,.dead,.dead,.dead,.dead,.dead,.dead,.dead,.dead,.dead,.dead,.dead,.dead,.dead,.dead,.dead,.dead,.dead,.dead,.dead,.dead,.dead,.dead,.dead,.dead,.dead,.dead,.dead,.dead,.dead,.dead,.dead,.dead,.dead,.dead,.dead,.dead,.dead,.dead,.dead,.dead,.dead,.dead,.dead,.dead,.dead,.dead,.dead,.dead,.dead,.dead,.dead,.dead,.dead,.dead,.dead,.dead,.dead,.dead,.dead,.dead,.dead,.dead,.dead,.dead,.dead,.dead,.dead,.dead,.dead,.dead,.dead,.dead,.dead,.dead,.dead],[(1,.box 27 (.val 27 p1)),(2,.box 27 (.val 27 (PV.agg [(PV.int 0),(PV.agg [(PV.int 0),(PV.int 0),(PV.int 0),(PV.int 0)]),(PV.int 0),(PV.list [])]))),(3,.box 25 (.own 25 4000)),(4000,.row 27 l29)]⟩
noncomputable def f57_w1A (k:Nat)(c18:PV→PV→(Bool→R)→R)(c57:PV→(PV→R)→R)(c84:Int→Int→(List PV)→(Bool→(List PV)→R)→R)(c85:PV→(Int→R)→R)(c86:(PV→R)→R)(c87:(PV→R)→R)(retF:PV→R)(p1:PV)(n28:Int)(l29:List PV):R:=loopM (f57_E k c18 c57 c84 c85 c86 c87) f57_cw1 (kont (f57_E k c18 c57 c84 c85 c86 c87) f57_code [1,1,0,1,0] (endK (f57_E k c18 c57 c84 c85 c86 c87) Try.f57 [] f57_un retF)) k (f57_hw1_0 p1 n28 l29)
noncomputable def f57_w1b0 (c18:PV→PV→(Bool→R)→R)(c57:PV→(PV→R)→R)(c84:Int→Int→(List PV)→(Bool→(List PV)→R)→R)(c85:PV→(Int→R)→R)(c86:(PV→R)→R)(c87:(PV→R)→R)(ret0:PV→R)(next_w1_0:Int→(List PV)→R)(p1:PV)(n28:Int)(l29:List PV):R :=
 bif (decide (n28 < (List.length (PV.els (PV.fld p1 3)):Int))) then
 bif (true&&decide ((0:Int)≤n28)&&decide (n28 < (List.length (PV.els (PV.fld p1 3)):Int))) then
 c57 (List.getD (PV.els (PV.fld p1 3)) (n28).toNat PV.nil) fun p30 =>
 bif (true&&roomy (List.length l29+List.length [(PV.agg [(PV.int 0),(PV.agg [(PV.int 0),(PV.int 0),(PV.int 0),(PV.int 0)]),(PV.int 0),(PV.list [])])]) 72) then
 bif (true&&true&&decide ((0:Int)≤(List.length l29:Int))&&decide ((List.length l29:Int) < (List.length (l29++[(PV.agg [(PV.int 0),(PV.agg [(PV.int 0),(PV.int 0),(PV.int 0),(PV.int 0)]),(PV.int 0),(PV.list [])])]):Int))) then
 let l31:List PV:=(List.set (l29++[(PV.agg [(PV.int 0),(PV.agg [(PV.int 0),(PV.int 0),(PV.int 0),(PV.int 0)]),(PV.int 0),(PV.list [])])]) ((List.length l29:Int)).toNat p30)
 next_w1_0 (IntKind.wrap .i64 (n28+(1:Int))) l31
 else none
 else none
 else none
 else bif (decide ((PV.num (PV.fld p1 0))=(2:Int))) then
 c85 (PV.fld p1 1) fun n32 =>
 bif (decide (n32=(0:Int))) then
 c86 fun p33 =>
 ret0 p33
 else ret0 (PV.agg [(PV.int (PV.num (PV.fld p1 0))),(PV.fld p1 1),(PV.int (PV.num (PV.fld p1 2))),(PV.list l29)])
 else bif (decide ((PV.num (PV.fld p1 0))=(3:Int))) then
 c84 0 0 l29 fun b34 l35 =>
 bif (b34==false) then
 c84 1 0 l35 fun b36 l37 =>
 bif b36 then
 c86 fun p38 =>
 ret0 p38
 else c84 0 1 l37 fun b39 l40 =>
 bif b39 then
 bif (true&&true&&decide ((0:Int)≤(1:Int))&&decide ((1:Int) < (List.length l40:Int))) then
 ret0 (List.getD l40 ((1:Int)).toNat PV.nil)
 else none
 else c84 1 1 l40 fun b41 l42 =>
 bif b41 then
 bif (true&&true&&decide ((0:Int)≤(0:Int))&&decide ((0:Int) < (List.length l42:Int))) then
 ret0 (List.getD l42 ((0:Int)).toNat PV.nil)
 else none
 else ret0 (PV.agg [(PV.int (PV.num (PV.fld p1 0))),(PV.fld p1 1),(PV.int (PV.num (PV.fld p1 2))),(PV.list l42)])
 else c86 fun p43 =>
 ret0 p43
 else bif (decide ((PV.num (PV.fld p1 0))=(4:Int))) then
 c84 0 0 l29 fun b44 l45 =>
 bif b44 then
 bif (true&&true&&decide ((0:Int)≤(1:Int))&&decide ((1:Int) < (List.length l45:Int))) then
 ret0 (List.getD l45 ((1:Int)).toNat PV.nil)
 else none
 else c84 1 0 l45 fun b46 l47 =>
 bif (b46==false) then
 bif (true&&true&&decide ((0:Int)≤(0:Int))&&decide ((0:Int) < (List.length l47:Int))) then
 bif (true&&true&&decide ((0:Int)≤(1:Int))&&decide ((1:Int) < (List.length l47:Int))) then
 c18 (List.getD l47 ((0:Int)).toNat PV.nil) (List.getD l47 ((1:Int)).toNat PV.nil) fun b48 =>
 bif b48 then
 bif (true&&true&&decide ((0:Int)≤(0:Int))&&decide ((0:Int) < (List.length l47:Int))) then
 ret0 (List.getD l47 ((0:Int)).toNat PV.nil)
 else none
 else ret0 (PV.agg [(PV.int (PV.num (PV.fld p1 0))),(PV.fld p1 1),(PV.int (PV.num (PV.fld p1 2))),(PV.list l47)])
 else none
 else none
 else bif (true&&true&&decide ((0:Int)≤(0:Int))&&decide ((0:Int) < (List.length l47:Int))) then
 ret0 (List.getD l47 ((0:Int)).toNat PV.nil)
 else none
 else bif (decide ((PV.num (PV.fld p1 0))=(5:Int))) then
 c84 0 0 l29 fun b49 l50 =>
 bif (b49==false) then
 c84 0 1 l50 fun b51 l52 =>
 bif b51 then
 c87 fun p53 =>
 ret0 p53
 else c84 0 5 l52 fun b54 l55 =>
 bif b54 then
 bif (true&&true&&decide ((0:Int)≤(0:Int))&&decide ((0:Int) < (List.length l55:Int))) then
 ret0 (List.getD l55 ((0:Int)).toNat PV.nil)
 else none
 else ret0 (PV.agg [(PV.int (PV.num (PV.fld p1 0))),(PV.fld p1 1),(PV.int (PV.num (PV.fld p1 2))),(PV.list l55)])
 else c87 fun p56 =>
 ret0 p56
 else bif (decide ((PV.num (PV.fld p1 0))=(6:Int))) then
 bif (true&&true&&decide ((0:Int)≤(0:Int))&&decide ((0:Int) < (List.length l29:Int))) then
 ret0 (List.getD l29 ((0:Int)).toNat PV.nil)
 else none
 else bif (decide ((PV.num (PV.fld p1 0))=(7:Int))) then
 bif (true&&true&&decide ((0:Int)≤(0:Int))&&decide ((0:Int) < (List.length l29:Int))) then
 ret0 (List.getD l29 ((0:Int)).toNat PV.nil)
 else none
 else ret0 (PV.agg [(PV.int (PV.num (PV.fld p1 0))),(PV.fld p1 1),(PV.int (PV.num (PV.fld p1 2))),(PV.list l29)])

theorem f57_w1b0_mem (k:Nat)(c18:PV→PV→(Bool→R)→R)(c57:PV→(PV→R)→R)(c84:Int→Int→(List PV)→(Bool→(List PV)→R)→R)(c85:PV→(Int→R)→R)(c86:(PV→R)→R)(c87:(PV→R)→R)(retF:PV→R)(NX_w1:St→R)(p1:PV)(n28:Int)(l29:List PV):exec (f57_E k c18 c57 c84 c85 c86 c87) f57_cw1 (purgeK (f57_E k c18 c57 c84 c85 c86 c87) f57_cw1 (loopK NX_w1 (kont (f57_E k c18 c57 c84 c85 c86 c87) f57_code [1,1,0,1,0] (endK (f57_E k c18 c57 c84 c85 c86 c87) Try.f57 [] f57_un retF)))) (f57_hw1_0 p1 n28 l29)=f57_w1b0 c18 c57 c84 c85 c86 c87 (fun y0=>retF y0) (fun n28 l29=>NX_w1 (f57_hw1_0 p1 n28 l29)) p1 n28 l29:=by kernel_rfl

noncomputable def f57_w1b0N (k:Nat)(c18:PV→PV→(Bool→R)→R)(c57:PV→(PV→R)→R)(c84:Int→Int→(List PV)→(Bool→(List PV)→R)→R)(c85:PV→(Int→R)→R)(c86:(PV→R)→R)(c87:(PV→R)→R)(ret0:PV→R)(next_w1_0:Int→(List PV)→R)(p1:PV)(n28:Int)(l29:List PV):R :=
 f57_w1b0 c18 c57 c84 c85 c86 c87 ret0 next_w1_0 p1 n28 l29
theorem f57_w1b0_eq (k:Nat)(c18:PV→PV→(Bool→R)→R)(c57:PV→(PV→R)→R)(c84:Int→Int→(List PV)→(Bool→(List PV)→R)→R)(c85:PV→(Int→R)→R)(c86:(PV→R)→R)(c87:(PV→R)→R)(retF:PV→R)(NX_w1:St→R)(p1:PV)(n28:Int)(l29:List PV):exec (f57_E k c18 c57 c84 c85 c86 c87) f57_cw1 (purgeK (f57_E k c18 c57 c84 c85 c86 c87) f57_cw1 (loopK NX_w1 (kont (f57_E k c18 c57 c84 c85 c86 c87) f57_code [1,1,0,1,0] (endK (f57_E k c18 c57 c84 c85 c86 c87) Try.f57 [] f57_un retF)))) (f57_hw1_0 p1 n28 l29)=f57_w1b0N k c18 c57 c84 c85 c86 c87 (fun y0=>retF y0) (fun n28 l29=>NX_w1 (f57_hw1_0 p1 n28 l29)) p1 n28 l29 :=
 (f57_w1b0_mem k c18 c57 c84 c85 c86 c87 retF NX_w1 p1 n28 l29)

noncomputable def f57_w1B (k:Nat)(c18:PV→PV→(Bool→R)→R)(c57:PV→(PV→R)→R)(c84:Int→Int→(List PV)→(Bool→(List PV)→R)→R)(c85:PV→(Int→R)→R)(c86:(PV→R)→R)(c87:(PV→R)→R)(ret0:PV→R)(p1:PV)(nx:Int × (List PV)→R):Int × (List PV)→R:=(fun s=>f57_w1b0N k c18 c57 c84 c85 c86 c87 ret0 (fun n28 l29=>nx (n28,l29)) p1 s.1 s.2)
noncomputable def f57_w1N (k:Nat)(c18:PV→PV→(Bool→R)→R)(c57:PV→(PV→R)→R)(c84:Int→Int→(List PV)→(Bool→(List PV)→R)→R)(c85:PV→(Int→R)→R)(c86:(PV→R)→R)(c87:(PV→R)→R)(ret0:PV→R)(p1:PV)(n28:Int)(l29:List PV):R:=loopR (f57_w1B k c18 c57 c84 c85 c86 c87 ret0 p1) k (n28,l29)
theorem f57_w1_eq (k:Nat)(c18:PV→PV→(Bool→R)→R)(c57:PV→(PV→R)→R)(c84:Int→Int→(List PV)→(Bool→(List PV)→R)→R)(c85:PV→(Int→R)→R)(c86:(PV→R)→R)(c87:(PV→R)→R)(retF:PV→R)(p1:PV)(n28:Int)(l29:List PV):f57_w1A k c18 c57 c84 c85 c86 c87 retF p1 n28 l29=f57_w1N k c18 c57 c84 c85 c86 c87 (fun y0=>retF y0) p1 n28 l29 :=
 Eq.mp (by kernel_rfl) (loop_sim (E:=(f57_E k c18 c57 c84 c85 c86 c87)) (c:=f57_cw1) (K:=(kont (f57_E k c18 c57 c84 c85 c86 c87) f57_code [1,1,0,1,0] (endK (f57_E k c18 c57 c84 c85 c86 c87) Try.f57 [] f57_un retF))) (S:=Int × (List PV)) (fun s=>f57_hw1_0 p1 s.1 s.2) (f57_w1B k c18 c57 c84 c85 c86 c87 (fun y0=>retF y0) p1) (fun NX s=>by
  exact Eq.mp (by kernel_rfl) (f57_w1b0_eq k c18 c57 c84 c85 c86 c87 retF NX p1 s.1 s.2)) k (n28,l29))

noncomputable def f57_e (c18:PV→PV→(Bool→R)→R)(c57:PV→(PV→R)→R)(c84:Int→Int→(List PV)→(Bool→(List PV)→R)→R)(c85:PV→(Int→R)→R)(c86:(PV→R)→R)(c87:(PV→R)→R)(ret0:PV→R)(w1:Int→(List PV)→R)(p1:PV):R :=
 w1 0 []

theorem f57_e_mem (k:Nat)(c18:PV→PV→(Bool→R)→R)(c57:PV→(PV→R)→R)(c84:Int→Int→(List PV)→(Bool→(List PV)→R)→R)(c85:PV→(Int→R)→R)(c86:(PV→R)→R)(c87:(PV→R)→R)(retF:PV→R)(p1:PV):exec (f57_E k c18 c57 c84 c85 c86 c87) f57_code (endK (f57_E k c18 c57 c84 c85 c86 c87) Try.f57 [] f57_un retF) ⟨[.val 27 p1,.undef,.undef,.undef,.undef,.undef,.undef,.undef,.undef,.undef,.undef,.undef,.undef,.undef,.undef,.undef,.undef,.undef,.undef,.undef,.undef,.undef,.undef,.undef,.undef,.undef,.undef,.undef,.undef,.undef,.undef,.undef,.undef,.undef,.undef,.undef,.undef,.undef,.undef,.undef,.undef,.undef,.undef,.undef,.undef,.undef,.undef,.undef,.undef,.undef,.undef,.undef,.undef,.undef,.undef,.undef,.undef,.undef,.undef,.undef,.undef,.undef,.undef,.undef,.undef,.undef,.undef,.undef,.undef,.undef,.undef,.undef,.undef,.undef,.undef,.undef,.undef,.undef,.undef,.undef,.undef,.undef,.undef,.undef,.undef,.undef,.undef,.undef,.undef,.undef,.undef,.undef,.undef,.undef,.undef,.undef,.undef,.undef,.undef,.undef,.undef,.undef],[]⟩=f57_e c18 c57 c84 c85 c86 c87 (fun y0=>retF y0) (fun n28 l29=>f57_w1A k c18 c57 c84 c85 c86 c87 retF p1 n28 l29) p1:=by kernel_rfl

noncomputable def f57_N (k:Nat)(c18:PV→PV→(Bool→R)→R)(c57:PV→(PV→R)→R)(c84:Int→Int→(List PV)→(Bool→(List PV)→R)→R)(c85:PV→(Int→R)→R)(c86:(PV→R)→R)(c87:(PV→R)→R)(ret0:PV→R)(p1:PV):R :=
 f57_e c18 c57 c84 c85 c86 c87 ret0 (fun n28 l29=>f57_w1N k c18 c57 c84 c85 c86 c87 ret0 p1 n28 l29) p1
theorem f57_eq (k:Nat)(c18:PV→PV→(Bool→R)→R)(c57:PV→(PV→R)→R)(c84:Int→Int→(List PV)→(Bool→(List PV)→R)→R)(c85:PV→(Int→R)→R)(c86:(PV→R)→R)(c87:(PV→R)→R)(retF:PV→R)(p1:PV):exec (f57_E k c18 c57 c84 c85 c86 c87) f57_code (endK (f57_E k c18 c57 c84 c85 c86 c87) Try.f57 [] f57_un retF) ⟨[.val 27 p1,.undef,.undef,.undef,.undef,.undef,.undef,.undef,.undef,.undef,.undef,.undef,.undef,.undef,.undef,.undef,.undef,.undef,.undef,.undef,.undef,.undef,.undef,.undef,.undef,.undef,.undef,.undef,.undef,.undef,.undef,.undef,.undef,.undef,.undef,.undef,.undef,.undef,.undef,.undef,.undef,.undef,.undef,.undef,.undef,.undef,.undef,.undef,.undef,.undef,.undef,.undef,.undef,.undef,.undef,.undef,.undef,.undef,.undef,.undef,.undef,.undef,.undef,.undef,.undef,.undef,.undef,.undef,.undef,.undef,.undef,.undef,.undef,.undef,.undef,.undef,.undef,.undef,.undef,.undef,.undef,.undef,.undef,.undef,.undef,.undef,.undef,.undef,.undef,.undef,.undef,.undef,.undef,.undef,.undef,.undef,.undef,.undef,.undef,.undef,.undef,.undef],[]⟩=f57_N k c18 c57 c84 c85 c86 c87 (fun y0=>retF y0) p1 :=
 (f57_e_mem k c18 c57 c84 c85 c86 c87 retF p1).trans (by rw [show (fun n28 l29=>f57_w1A k c18 c57 c84 c85 c86 c87 retF p1 n28 l29)=(fun n28 l29=>f57_w1N k c18 c57 c84 c85 c86 c87 (fun y0=>retF y0) p1 n28 l29) from funext fun n28=>funext fun l29=>f57_w1_eq k c18 c57 c84 c85 c86 c87 retF p1 n28 l29];rfl)

noncomputable def G57:Nat→PV→(PV→R)→R
 | 0,_,_=>none
 | k+1,p1,ret0=>f57_N k (G18 k) (G57 k) (G84 k) (G85 k) (G86 k) (G87 k) ret0 p1
theorem S57:∀ k,Snd Try.prog 57 f57_I f57_O (fun x ret=>G57 k x (fun y0=>ret y0))
 | 0=>snd_none
 | k+1=>snd_step (E:=f57_E k (G18 k) (G57 k) (G84 k) (G85 k) (G86 k) (G87 k)) rfl laidOut noNums (orc_ok (S18 k).o f18_D_ok (orc_ok (S57 k).o f57_D_ok (orc_ok (S84 k).o f84_D_ok (orc_ok (S85 k).o f85_D_ok (orc_ok (S86 k).o f86_D_ok (orc_ok (S87 k).o f87_D_ok orc0_ok)))))) (f:=57) (fn:=Try.f57) (code:=f57_code) Try.func57 (by kernel_rfl) (drawsOk_of laidOut (orc_ok (S18 k).o f18_D_ok (orc_ok (S57 k).o f57_D_ok (orc_ok (S84 k).o f84_D_ok (orc_ok (S85 k).o f85_D_ok (orc_ok (S86 k).o f86_D_ok (orc_ok (S87 k).o f87_D_ok orc0_ok)))))) mixed (by kernel_rfl)) f57_un f57_un_ok [] (fun _=>rfl)
   (fun x ret=>f57_eq k (G18 k) (G57 k) (G84 k) (G85 k) (G86 k) (G87 k) ret x)

/- catchpole/deriv.By -/
noncomputable def f27_I:PV × Int→List SV × Obs:=fun x=>([.val 27 x.1,.int .u8 x.2],[])
noncomputable def f27_D:List SV→Obs→Option (PV × Int)
 | [.val 27 p1,.int .u8 n2],[]=>some (p1,n2)
 | _,_=>none
theorem f27_D_ok (args:List SV)(B:Obs)(x:PV × Int)(h:f27_D args B=some x):f27_I x=(args,B):=by
 unfold f27_D at h
 split at h
 ·injection h with h;subst h;rfl
 ·cases h
noncomputable def f27_O:PV × Int→Out:=(fun y=>([.val 27 y.1,.int .i64 y.2],[]))
noncomputable def f27_un:Out→Option (PV × Int)
 | ([.val 27 y0,.int .i64 y1],[])=>some (y0,y1)
 | _=>none
theorem f27_un_ok (o:Out)(y:PV × Int)(h:f27_un o=some y):o=f27_O y:=by
 unfold f27_un at h
 split at h
 ·injection h with h;subst h;rfl
 ·cases h
noncomputable def f27_msk:Nat→Option (List Nat):=fun key=> none
noncomputable def f27_C (c28:PV→(Bool→R)→R)(c57:PV→(PV→R)→R)(c59:PV→Int→(PV→R)→R):Oracle:=orc 28 f28_D f28_O (fun x ret=>c28 x (fun y0=>ret y0)) <| orc 57 f57_D f57_O (fun x ret=>c57 x (fun y0=>ret y0)) <| orc 59 f59_D f59_O (fun x ret=>c59 x.1 x.2 (fun y0=>ret y0)) <| orc0
noncomputable def f27_E (k:Nat)(c28:PV→(Bool→R)→R)(c57:PV→(PV→R)→R)(c59:PV→Int→(PV→R)→R):Env:={ P:=Try.prog,nilOwn:=fun d=>false,fldOwn:=fun d i=>false,ownPar:=ownPars,ownRet:=false,hpD:=fun d=>false,hpF:=hpFs,hpNew:=false,mask:=f27_msk,fuel:=k,C:=f27_C c28 c57 c59 }
noncomputable def f27_code:Code:=Try.f27.body.getD .skip
noncomputable def f27_e (c28:PV→(Bool→R)→R)(c57:PV→(PV→R)→R)(c59:PV→Int→(PV→R)→R)(ret0:PV→Int→R)(p1:PV)(n2:Int):R :=
 c28 p1 fun b3 =>
 bif (!b3) then
 ret0 (PV.agg [(PV.int 0),(PV.agg [(PV.int 0),(PV.int 0),(PV.int 0),(PV.int 0)]),(PV.int 0),(PV.list [])]) 1
 else c59 p1 n2 fun p4 =>
 c57 p4 fun p5 =>
 c28 p5 fun b6 =>
 bif (!b6) then
 ret0 (PV.agg [(PV.int 0),(PV.agg [(PV.int 0),(PV.int 0),(PV.int 0),(PV.int 0)]),(PV.int 0),(PV.list [])]) 4
 else ret0 p5 0

theorem f27_e_mem (k:Nat)(c28:PV→(Bool→R)→R)(c57:PV→(PV→R)→R)(c59:PV→Int→(PV→R)→R)(retF:PV × Int→R)(p1:PV)(n2:Int):exec (f27_E k c28 c57 c59) f27_code (endK (f27_E k c28 c57 c59) Try.f27 [] f27_un retF) ⟨[.val 27 p1,.int .u8 n2,.undef,.undef,.undef,.undef,.undef,.undef,.undef,.undef,.undef,.undef,.undef,.undef,.undef,.undef,.undef,.undef,.undef,.undef],[]⟩=f27_e c28 c57 c59 (fun y0 y1=>retF (y0,y1)) p1 n2:=by kernel_rfl

noncomputable def f27_N (k:Nat)(c28:PV→(Bool→R)→R)(c57:PV→(PV→R)→R)(c59:PV→Int→(PV→R)→R)(ret0:PV→Int→R)(p1:PV)(n2:Int):R :=
 f27_e c28 c57 c59 ret0 p1 n2
theorem f27_eq (k:Nat)(c28:PV→(Bool→R)→R)(c57:PV→(PV→R)→R)(c59:PV→Int→(PV→R)→R)(retF:PV × Int→R)(p1:PV)(n2:Int):exec (f27_E k c28 c57 c59) f27_code (endK (f27_E k c28 c57 c59) Try.f27 [] f27_un retF) ⟨[.val 27 p1,.int .u8 n2,.undef,.undef,.undef,.undef,.undef,.undef,.undef,.undef,.undef,.undef,.undef,.undef,.undef,.undef,.undef,.undef,.undef,.undef],[]⟩=f27_N k c28 c57 c59 (fun y0 y1=>retF (y0,y1)) p1 n2 :=
 (f27_e_mem k c28 c57 c59 retF p1 n2)

noncomputable def G27:Nat→PV→Int→(PV→Int→R)→R
 | 0,_,_,_=>none
 | k+1,p1,n2,ret0=>f27_N k (G28 k) (G57 k) (G59 k) ret0 p1 n2
theorem S27:∀ k,Snd Try.prog 27 f27_I f27_O (fun x ret=>G27 k x.1 x.2 (fun y0 y1=>ret (y0,y1)))
 | 0=>snd_none
 | k+1=>snd_step (E:=f27_E k (G28 k) (G57 k) (G59 k)) rfl laidOut noNums (orc_ok (S28 k).o f28_D_ok (orc_ok (S57 k).o f57_D_ok (orc_ok (S59 k).o f59_D_ok orc0_ok))) (f:=27) (fn:=Try.f27) (code:=f27_code) Try.func27 (by kernel_rfl) (drawsOk_of laidOut (orc_ok (S28 k).o f28_D_ok (orc_ok (S57 k).o f57_D_ok (orc_ok (S59 k).o f59_D_ok orc0_ok))) mixed (by kernel_rfl)) f27_un f27_un_ok [] (fun _=>rfl)
   (fun x ret=>f27_eq k (G28 k) (G57 k) (G59 k) ret x.1 x.2)

/- catchpole/catchpolelaw16.awake -/
noncomputable def f14_I:Unit→List SV × Obs:=fun x=>([],[])
noncomputable def f14_D:List SV→Obs→Option (Unit)
 | [],[]=>some ()
 | _,_=>none
theorem f14_D_ok (args:List SV)(B:Obs)(x:Unit)(h:f14_D args B=some x):f14_I x=(args,B):=by
 unfold f14_D at h
 split at h
 ·injection h with h;subst h;rfl
 ·cases h
noncomputable def f14_O:Bool→Out:=(fun y=>([.bool y],[]))
noncomputable def f14_un:Out→Option (Bool)
 | ([.bool y0],[])=>some y0
 | _=>none
theorem f14_un_ok (o:Out)(y:Bool)(h:f14_un o=some y):o=f14_O y:=by
 unfold f14_un at h
 split at h
 ·injection h with h;subst h;rfl
 ·cases h
noncomputable def f14_msk:Nat→Option (List Nat):=fun key=> none
noncomputable def f14_C (c18:PV→PV→(Bool→R)→R)(c19:PV→PV→(PV→R)→R)(c20:PV→(PV→R)→R)(c27:PV→Int→(PV→Int→R)→R):Oracle:=orc 18 f18_D f18_O (fun x ret=>c18 x.1 x.2 (fun y0=>ret y0)) <| orc 19 f19_D f19_O (fun x ret=>c19 x.1 x.2 (fun y0=>ret y0)) <| orc 20 f20_D f20_O (fun x ret=>c20 x (fun y0=>ret y0)) <| orc 27 f27_D f27_O (fun x ret=>c27 x.1 x.2 (fun y0 y1=>ret (y0,y1))) <| orc0
noncomputable def f14_E (k:Nat)(c18:PV→PV→(Bool→R)→R)(c19:PV→PV→(PV→R)→R)(c20:PV→(PV→R)→R)(c27:PV→Int→(PV→Int→R)→R):Env:={ P:=Try.prog,nilOwn:=fun d=>false,fldOwn:=fun d i=>false,ownPar:=ownPars,ownRet:=false,hpD:=fun d=>false,hpF:=hpFs,hpNew:=false,mask:=f14_msk,fuel:=k,C:=f14_C c18 c19 c20 c27 }
noncomputable def f14_code:Code:=Try.f14.body.getD .skip
noncomputable def f14_e (c18:PV→PV→(Bool→R)→R)(c19:PV→PV→(PV→R)→R)(c20:PV→(PV→R)→R)(c27:PV→Int→(PV→Int→R)→R)(ret0:Bool→R):R :=
 c20 (PV.list [(PV.int 97)]) fun p1 =>
 c20 (PV.list [(PV.int 98)]) fun p2 =>
 c19 p1 p2 fun p3 =>
 c27 p3 97 fun p4 n5 =>
 bif ((decide (n5=(0:Int)))==true) then
 c20 (PV.list [(PV.int 98)]) fun p6 =>
 c18 p4 p6 fun b7 =>
 ret0 b7
 else ret0 false

theorem f14_e_mem (k:Nat)(c18:PV→PV→(Bool→R)→R)(c19:PV→PV→(PV→R)→R)(c20:PV→(PV→R)→R)(c27:PV→Int→(PV→Int→R)→R)(retF:Bool→R):exec (f14_E k c18 c19 c20 c27) f14_code (endK (f14_E k c18 c19 c20 c27) Try.f14 [] f14_un retF) ⟨[.undef,.undef,.undef,.undef,.undef,.undef,.undef,.undef,.undef,.undef,.undef,.undef,.undef,.undef,.undef,.undef,.undef,.undef,.undef,.undef],[]⟩=f14_e c18 c19 c20 c27 (fun y0=>retF y0):=by kernel_rfl

noncomputable def f14_N (k:Nat)(c18:PV→PV→(Bool→R)→R)(c19:PV→PV→(PV→R)→R)(c20:PV→(PV→R)→R)(c27:PV→Int→(PV→Int→R)→R)(ret0:Bool→R):R :=
 f14_e c18 c19 c20 c27 ret0
theorem f14_eq (k:Nat)(c18:PV→PV→(Bool→R)→R)(c19:PV→PV→(PV→R)→R)(c20:PV→(PV→R)→R)(c27:PV→Int→(PV→Int→R)→R)(retF:Bool→R):exec (f14_E k c18 c19 c20 c27) f14_code (endK (f14_E k c18 c19 c20 c27) Try.f14 [] f14_un retF) ⟨[.undef,.undef,.undef,.undef,.undef,.undef,.undef,.undef,.undef,.undef,.undef,.undef,.undef,.undef,.undef,.undef,.undef,.undef,.undef,.undef],[]⟩=f14_N k c18 c19 c20 c27 (fun y0=>retF y0) :=
 (f14_e_mem k c18 c19 c20 c27 retF)

noncomputable def G14:Nat→(Bool→R)→R
 | 0,_=>none
 | k+1,ret0=>f14_N k (G18 k) (G19 k) (G20 k) (G27 k) ret0 
theorem S14:∀ k,Snd Try.prog 14 f14_I f14_O (fun x ret=>G14 k (fun y0=>ret y0))
 | 0=>snd_none
 | k+1=>snd_step (E:=f14_E k (G18 k) (G19 k) (G20 k) (G27 k)) rfl laidOut noNums (orc_ok (S18 k).o f18_D_ok (orc_ok (S19 k).o f19_D_ok (orc_ok (S20 k).o f20_D_ok (orc_ok (S27 k).o f27_D_ok orc0_ok)))) (f:=14) (fn:=Try.f14) (code:=f14_code) Try.func14 (by kernel_rfl) (drawsOk_of laidOut (orc_ok (S18 k).o f18_D_ok (orc_ok (S19 k).o f19_D_ok (orc_ok (S20 k).o f20_D_ok (orc_ok (S27 k).o f27_D_ok orc0_ok)))) mixed (by kernel_rfl)) f14_un f14_un_ok [] (fun _=>rfl)
   (fun x ret=>f14_eq k (G18 k) (G19 k) (G20 k) (G27 k) ret)

/- catchpole/catchpolelaw16.big -/
noncomputable def f15_I:PV × Int→List SV × Obs:=fun x=>([.val 27 x.1,.int .i64 x.2],[])
noncomputable def f15_D:List SV→Obs→Option (PV × Int)
 | [.val 27 p1,.int .i64 n2],[]=>some (p1,n2)
 | _,_=>none
theorem f15_D_ok (args:List SV)(B:Obs)(x:PV × Int)(h:f15_D args B=some x):f15_I x=(args,B):=by
 unfold f15_D at h
 split at h
 ·injection h with h;subst h;rfl
 ·cases h
noncomputable def f15_O:Bool→Out:=(fun y=>([.bool y],[]))
noncomputable def f15_un:Out→Option (Bool)
 | ([.bool y0],[])=>some y0
 | _=>none
theorem f15_un_ok (o:Out)(y:Bool)(h:f15_un o=some y):o=f15_O y:=by
 unfold f15_un at h
 split at h
 ·injection h with h;subst h;rfl
 ·cases h
noncomputable def f15_msk:Nat→Option (List Nat):=fun key=>bif key==12 then some [1,2,5] else none
noncomputable def f15_C (c15:PV→Int→(Bool→R)→R):Oracle:=orc 15 f15_D f15_O (fun x ret=>c15 x.1 x.2 (fun y0=>ret y0)) <| orc0
noncomputable def f15_E (k:Nat)(c15:PV→Int→(Bool→R)→R):Env:={ P:=Try.prog,nilOwn:=fun d=>false,fldOwn:=fun d i=>false,ownPar:=ownPars,ownRet:=false,hpD:=fun d=>false,hpF:=hpFs,hpNew:=false,mask:=f15_msk,fuel:=k,C:=f15_C c15 }
noncomputable def f15_code:Code:=Try.f15.body.getD .skip
noncomputable def f15_cw1:Code:=subC f15_code [1,1,0,1,0,0]
noncomputable def f15_hw1_0 (p1:PV)(n2:Int)(n4:Int):St:=⟨[.dead,.int .i64 n2,.ptr 2 [],.dead,.dead,.int .i64 n4,.dead,.dead,.dead,.dead,.dead,.dead,.dead,.dead,.dead,.dead,.dead,.dead,.dead,.dead,.dead,.dead,.dead,.dead,.dead,.dead,.dead,.dead,.dead],[(2,.box 27 (.val 27 p1))]⟩
noncomputable def f15_w1A (k:Nat)(c15:PV→Int→(Bool→R)→R)(retF:Bool→R)(p1:PV)(n2:Int)(n4:Int):R:=loopM (f15_E k c15) f15_cw1 (kont (f15_E k c15) f15_code [1,1,0,1,0] (endK (f15_E k c15) Try.f15 [] f15_un retF)) k (f15_hw1_0 p1 n2 n4)
noncomputable def f15_w1b0 (c15:PV→Int→(Bool→R)→R)(ret0:Bool→R)(next_w1_0:Int→R)(p1:PV)(n2:Int)(n4:Int):R :=
 bif (decide (n4 < (List.length (PV.els (PV.fld p1 3)):Int))) then
 bif (true&&decide ((0:Int)≤n4)&&decide (n4 < (List.length (PV.els (PV.fld p1 3)):Int))) then
 c15 (List.getD (PV.els (PV.fld p1 3)) (n4).toNat PV.nil) (IntKind.wrap .i64 (n2 - (1:Int))) fun b5 =>
 bif b5 then
 ret0 true
 else next_w1_0 (IntKind.wrap .i64 (n4+(1:Int)))
 else none
 else ret0 false

theorem f15_w1b0_mem (k:Nat)(c15:PV→Int→(Bool→R)→R)(retF:Bool→R)(NX_w1:St→R)(p1:PV)(n2:Int)(n4:Int):exec (f15_E k c15) f15_cw1 (purgeK (f15_E k c15) f15_cw1 (loopK NX_w1 (kont (f15_E k c15) f15_code [1,1,0,1,0] (endK (f15_E k c15) Try.f15 [] f15_un retF)))) (f15_hw1_0 p1 n2 n4)=f15_w1b0 c15 (fun y0=>retF y0) (fun n4=>NX_w1 (f15_hw1_0 p1 n2 n4)) p1 n2 n4:=by kernel_rfl

noncomputable def f15_w1b0N (k:Nat)(c15:PV→Int→(Bool→R)→R)(ret0:Bool→R)(next_w1_0:Int→R)(p1:PV)(n2:Int)(n4:Int):R :=
 f15_w1b0 c15 ret0 next_w1_0 p1 n2 n4
theorem f15_w1b0_eq (k:Nat)(c15:PV→Int→(Bool→R)→R)(retF:Bool→R)(NX_w1:St→R)(p1:PV)(n2:Int)(n4:Int):exec (f15_E k c15) f15_cw1 (purgeK (f15_E k c15) f15_cw1 (loopK NX_w1 (kont (f15_E k c15) f15_code [1,1,0,1,0] (endK (f15_E k c15) Try.f15 [] f15_un retF)))) (f15_hw1_0 p1 n2 n4)=f15_w1b0N k c15 (fun y0=>retF y0) (fun n4=>NX_w1 (f15_hw1_0 p1 n2 n4)) p1 n2 n4 :=
 (f15_w1b0_mem k c15 retF NX_w1 p1 n2 n4)

noncomputable def f15_w1B (k:Nat)(c15:PV→Int→(Bool→R)→R)(ret0:Bool→R)(p1:PV)(n2:Int)(nx:Int→R):Int→R:=(fun s=>f15_w1b0N k c15 ret0 (fun n4=>nx n4) p1 n2 s)
noncomputable def f15_w1N (k:Nat)(c15:PV→Int→(Bool→R)→R)(ret0:Bool→R)(p1:PV)(n2:Int)(n4:Int):R:=loopR (f15_w1B k c15 ret0 p1 n2) k n4
theorem f15_w1_eq (k:Nat)(c15:PV→Int→(Bool→R)→R)(retF:Bool→R)(p1:PV)(n2:Int)(n4:Int):f15_w1A k c15 retF p1 n2 n4=f15_w1N k c15 (fun y0=>retF y0) p1 n2 n4 :=
 Eq.mp (by kernel_rfl) (loop_sim (E:=(f15_E k c15)) (c:=f15_cw1) (K:=(kont (f15_E k c15) f15_code [1,1,0,1,0] (endK (f15_E k c15) Try.f15 [] f15_un retF))) (S:=Int) (fun s=>f15_hw1_0 p1 n2 s) (f15_w1B k c15 (fun y0=>retF y0) p1 n2) (fun NX s=>by
  exact Eq.mp (by kernel_rfl) (f15_w1b0_eq k c15 retF NX p1 n2 s)) k n4)

noncomputable def f15_e (c15:PV→Int→(Bool→R)→R)(ret0:Bool→R)(w1:Int→R)(p1:PV)(n2:Int):R :=
 bif ((decide (n2 < (1:Int)))==false) then
 bif (decide ((3:Int) < (List.length (PV.els (PV.fld p1 3)):Int))) then
 ret0 true
 else w1 0
 else ret0 true

theorem f15_e_mem (k:Nat)(c15:PV→Int→(Bool→R)→R)(retF:Bool→R)(p1:PV)(n2:Int):exec (f15_E k c15) f15_code (endK (f15_E k c15) Try.f15 [] f15_un retF) ⟨[.val 27 p1,.int .i64 n2,.undef,.undef,.undef,.undef,.undef,.undef,.undef,.undef,.undef,.undef,.undef,.undef,.undef,.undef,.undef,.undef,.undef,.undef,.undef,.undef,.undef,.undef,.undef,.undef,.undef,.undef,.undef],[]⟩=f15_e c15 (fun y0=>retF y0) (fun n4=>f15_w1A k c15 retF p1 n2 n4) p1 n2:=by kernel_rfl

noncomputable def f15_N (k:Nat)(c15:PV→Int→(Bool→R)→R)(ret0:Bool→R)(p1:PV)(n2:Int):R :=
 f15_e c15 ret0 (fun n4=>f15_w1N k c15 ret0 p1 n2 n4) p1 n2
theorem f15_eq (k:Nat)(c15:PV→Int→(Bool→R)→R)(retF:Bool→R)(p1:PV)(n2:Int):exec (f15_E k c15) f15_code (endK (f15_E k c15) Try.f15 [] f15_un retF) ⟨[.val 27 p1,.int .i64 n2,.undef,.undef,.undef,.undef,.undef,.undef,.undef,.undef,.undef,.undef,.undef,.undef,.undef,.undef,.undef,.undef,.undef,.undef,.undef,.undef,.undef,.undef,.undef,.undef,.undef,.undef,.undef],[]⟩=f15_N k c15 (fun y0=>retF y0) p1 n2 :=
 (f15_e_mem k c15 retF p1 n2).trans (by rw [show (fun n4=>f15_w1A k c15 retF p1 n2 n4)=(fun n4=>f15_w1N k c15 (fun y0=>retF y0) p1 n2 n4) from funext fun n4=>f15_w1_eq k c15 retF p1 n2 n4];rfl)

noncomputable def G15:Nat→PV→Int→(Bool→R)→R
 | 0,_,_,_=>none
 | k+1,p1,n2,ret0=>f15_N k (G15 k) ret0 p1 n2
theorem S15:∀ k,Snd Try.prog 15 f15_I f15_O (fun x ret=>G15 k x.1 x.2 (fun y0=>ret y0))
 | 0=>snd_none
 | k+1=>snd_step (E:=f15_E k (G15 k)) rfl laidOut noNums (orc_ok (S15 k).o f15_D_ok orc0_ok) (f:=15) (fn:=Try.f15) (code:=f15_code) Try.func15 (by kernel_rfl) (drawsOk_of laidOut (orc_ok (S15 k).o f15_D_ok orc0_ok) mixed (by kernel_rfl)) f15_un f15_un_ok [] (fun _=>rfl)
   (fun x ret=>f15_eq k (G15 k) ret x.1 x.2)

/- catchpole/deriv.Word -/
noncomputable def f17_I:PV × PV→List SV × Obs:=fun x=>([.val 27 x.1,.val 28 x.2],[])
noncomputable def f17_D:List SV→Obs→Option (PV × PV)
 | [.val 27 p1,.val 28 p2],[]=>some (p1,p2)
 | _,_=>none
theorem f17_D_ok (args:List SV)(B:Obs)(x:PV × PV)(h:f17_D args B=some x):f17_I x=(args,B):=by
 unfold f17_D at h
 split at h
 ·injection h with h;subst h;rfl
 ·cases h
noncomputable def f17_O:PV × Int→Out:=(fun y=>([.val 27 y.1,.int .i64 y.2],[]))
noncomputable def f17_un:Out→Option (PV × Int)
 | ([.val 27 y0,.int .i64 y1],[])=>some (y0,y1)
 | _=>none
theorem f17_un_ok (o:Out)(y:PV × Int)(h:f17_un o=some y):o=f17_O y:=by
 unfold f17_un at h
 split at h
 ·injection h with h;subst h;rfl
 ·cases h
noncomputable def f17_msk:Nat→Option (List Nat):=fun key=>bif key==18 then some [2,4,19,20,21] else none
noncomputable def f17_C (c27:PV→Int→(PV→Int→R)→R)(c28:PV→(Bool→R)→R)(c57:PV→(PV→R)→R):Oracle:=orc 27 f27_D f27_O (fun x ret=>c27 x.1 x.2 (fun y0 y1=>ret (y0,y1))) <| orc 28 f28_D f28_O (fun x ret=>c28 x (fun y0=>ret y0)) <| orc 57 f57_D f57_O (fun x ret=>c57 x (fun y0=>ret y0)) <| orc0
noncomputable def f17_E (k:Nat)(c27:PV→Int→(PV→Int→R)→R)(c28:PV→(Bool→R)→R)(c57:PV→(PV→R)→R):Env:={ P:=Try.prog,nilOwn:=fun d=>false,fldOwn:=fun d i=>false,ownPar:=ownPars,ownRet:=false,hpD:=fun d=>false,hpF:=hpFs,hpNew:=false,mask:=f17_msk,fuel:=k,C:=f17_C c27 c28 c57 }
noncomputable def f17_code:Code:=Try.f17.body.getD .skip
noncomputable def f17_cw1:Code:=subC f17_code [1,1,1,0,1,0,0]
noncomputable def f17_hw1_0 (p2:PV)(n7:Int)(p8:PV):St:=⟨[.dead,.dead,.ptr 2 [],.dead,.ptr 4 [],.dead,.dead,.dead,.dead,.dead,.dead,.dead,.dead,.dead,.dead,.dead,.dead,.dead,.dead,.val 28 p2,.int .i64 (List.length (PV.els p2):Int),.int .i64 n7,.dead,.dead,.dead,.dead,.dead,.dead,.dead,.dead,.dead,.dead,.dead,.dead,.dead,.dead,.dead,.dead],[(2,.box 27 (.val 27 p8)),(4,.box 27 (.val 27 (PV.agg [(PV.int 0),(PV.agg [(PV.int 0),(PV.int 0),(PV.int 0),(PV.int 0)]),(PV.int 0),(PV.list [])])))]⟩
noncomputable def f17_w1A (k:Nat)(c27:PV→Int→(PV→Int→R)→R)(c28:PV→(Bool→R)→R)(c57:PV→(PV→R)→R)(retF:PV × Int→R)(p2:PV)(n7:Int)(p8:PV):R:=loopM (f17_E k c27 c28 c57) f17_cw1 (kont (f17_E k c27 c28 c57) f17_code [1,1,1,0,1,0] (endK (f17_E k c27 c28 c57) Try.f17 [] f17_un retF)) k (f17_hw1_0 p2 n7 p8)
noncomputable def f17_w1b0 (c27:PV→Int→(PV→Int→R)→R)(c28:PV→(Bool→R)→R)(c57:PV→(PV→R)→R)(ret0:PV→Int→R)(next_w1_0:Int→PV→R)(p2:PV)(n7:Int)(p8:PV):R :=
 bif (decide (n7 < (List.length (PV.els p2):Int))) then
 bif (true&&decide ((0:Int)≤n7)&&decide (n7 < (List.length (PV.els p2):Int))) then
 c27 p8 (PV.num (List.getD (PV.els p2) (n7).toNat PV.nil)) fun p9 n10 =>
 bif (!(decide (n10=(0:Int)))) then
 ret0 (PV.agg [(PV.int 0),(PV.agg [(PV.int 0),(PV.int 0),(PV.int 0),(PV.int 0)]),(PV.int 0),(PV.list [])]) n10
 else next_w1_0 (IntKind.wrap .i64 (n7+(1:Int))) p9
 else none
 else ret0 p8 0

theorem f17_w1b0_mem (k:Nat)(c27:PV→Int→(PV→Int→R)→R)(c28:PV→(Bool→R)→R)(c57:PV→(PV→R)→R)(retF:PV × Int→R)(NX_w1:St→R)(p2:PV)(n7:Int)(p8:PV):exec (f17_E k c27 c28 c57) f17_cw1 (purgeK (f17_E k c27 c28 c57) f17_cw1 (loopK NX_w1 (kont (f17_E k c27 c28 c57) f17_code [1,1,1,0,1,0] (endK (f17_E k c27 c28 c57) Try.f17 [] f17_un retF)))) (f17_hw1_0 p2 n7 p8)=f17_w1b0 c27 c28 c57 (fun y0 y1=>retF (y0,y1)) (fun n7 p8=>NX_w1 (f17_hw1_0 p2 n7 p8)) p2 n7 p8:=by kernel_rfl

noncomputable def f17_w1b0N (k:Nat)(c27:PV→Int→(PV→Int→R)→R)(c28:PV→(Bool→R)→R)(c57:PV→(PV→R)→R)(ret0:PV→Int→R)(next_w1_0:Int→PV→R)(p2:PV)(n7:Int)(p8:PV):R :=
 f17_w1b0 c27 c28 c57 ret0 next_w1_0 p2 n7 p8
theorem f17_w1b0_eq (k:Nat)(c27:PV→Int→(PV→Int→R)→R)(c28:PV→(Bool→R)→R)(c57:PV→(PV→R)→R)(retF:PV × Int→R)(NX_w1:St→R)(p2:PV)(n7:Int)(p8:PV):exec (f17_E k c27 c28 c57) f17_cw1 (purgeK (f17_E k c27 c28 c57) f17_cw1 (loopK NX_w1 (kont (f17_E k c27 c28 c57) f17_code [1,1,1,0,1,0] (endK (f17_E k c27 c28 c57) Try.f17 [] f17_un retF)))) (f17_hw1_0 p2 n7 p8)=f17_w1b0N k c27 c28 c57 (fun y0 y1=>retF (y0,y1)) (fun n7 p8=>NX_w1 (f17_hw1_0 p2 n7 p8)) p2 n7 p8 :=
 (f17_w1b0_mem k c27 c28 c57 retF NX_w1 p2 n7 p8)

noncomputable def f17_w1B (k:Nat)(c27:PV→Int→(PV→Int→R)→R)(c28:PV→(Bool→R)→R)(c57:PV→(PV→R)→R)(ret0:PV→Int→R)(p2:PV)(nx:Int × PV→R):Int × PV→R:=(fun s=>f17_w1b0N k c27 c28 c57 ret0 (fun n7 p8=>nx (n7,p8)) p2 s.1 s.2)
noncomputable def f17_w1N (k:Nat)(c27:PV→Int→(PV→Int→R)→R)(c28:PV→(Bool→R)→R)(c57:PV→(PV→R)→R)(ret0:PV→Int→R)(p2:PV)(n7:Int)(p8:PV):R:=loopR (f17_w1B k c27 c28 c57 ret0 p2) k (n7,p8)
theorem f17_w1_eq (k:Nat)(c27:PV→Int→(PV→Int→R)→R)(c28:PV→(Bool→R)→R)(c57:PV→(PV→R)→R)(retF:PV × Int→R)(p2:PV)(n7:Int)(p8:PV):f17_w1A k c27 c28 c57 retF p2 n7 p8=f17_w1N k c27 c28 c57 (fun y0 y1=>retF (y0,y1)) p2 n7 p8 :=
 Eq.mp (by kernel_rfl) (loop_sim (E:=(f17_E k c27 c28 c57)) (c:=f17_cw1) (K:=(kont (f17_E k c27 c28 c57) f17_code [1,1,1,0,1,0] (endK (f17_E k c27 c28 c57) Try.f17 [] f17_un retF))) (S:=Int × PV) (fun s=>f17_hw1_0 p2 s.1 s.2) (f17_w1B k c27 c28 c57 (fun y0 y1=>retF (y0,y1)) p2) (fun NX s=>by
  exact Eq.mp (by kernel_rfl) (f17_w1b0_eq k c27 c28 c57 retF NX p2 s.1 s.2)) k (n7,p8))

noncomputable def f17_e (c27:PV→Int→(PV→Int→R)→R)(c28:PV→(Bool→R)→R)(c57:PV→(PV→R)→R)(ret0:PV→Int→R)(w1:Int→PV→R)(p1:PV)(p2:PV):R :=
 c28 p1 fun b3 =>
 bif (!b3) then
 ret0 (PV.agg [(PV.int 0),(PV.agg [(PV.int 0),(PV.int 0),(PV.int 0),(PV.int 0)]),(PV.int 0),(PV.list [])]) 1
 else bif (decide ((List.length (PV.els p2):Int)=(0:Int))) then
 c57 p1 fun p4 =>
 ret0 p4 0
 else w1 0 p1

theorem f17_e_mem (k:Nat)(c27:PV→Int→(PV→Int→R)→R)(c28:PV→(Bool→R)→R)(c57:PV→(PV→R)→R)(retF:PV × Int→R)(p1:PV)(p2:PV):exec (f17_E k c27 c28 c57) f17_code (endK (f17_E k c27 c28 c57) Try.f17 [] f17_un retF) ⟨[.val 27 p1,.val 28 p2,.undef,.undef,.undef,.undef,.undef,.undef,.undef,.undef,.undef,.undef,.undef,.undef,.undef,.undef,.undef,.undef,.undef,.undef,.undef,.undef,.undef,.undef,.undef,.undef,.undef,.undef,.undef,.undef,.undef,.undef,.undef,.undef,.undef,.undef,.undef,.undef],[]⟩=f17_e c27 c28 c57 (fun y0 y1=>retF (y0,y1)) (fun n7 p8=>f17_w1A k c27 c28 c57 retF p2 n7 p8) p1 p2:=by kernel_rfl

noncomputable def f17_N (k:Nat)(c27:PV→Int→(PV→Int→R)→R)(c28:PV→(Bool→R)→R)(c57:PV→(PV→R)→R)(ret0:PV→Int→R)(p1:PV)(p2:PV):R :=
 f17_e c27 c28 c57 ret0 (fun n7 p8=>f17_w1N k c27 c28 c57 ret0 p2 n7 p8) p1 p2
theorem f17_eq (k:Nat)(c27:PV→Int→(PV→Int→R)→R)(c28:PV→(Bool→R)→R)(c57:PV→(PV→R)→R)(retF:PV × Int→R)(p1:PV)(p2:PV):exec (f17_E k c27 c28 c57) f17_code (endK (f17_E k c27 c28 c57) Try.f17 [] f17_un retF) ⟨[.val 27 p1,.val 28 p2,.undef,.undef,.undef,.undef,.undef,.undef,.undef,.undef,.undef,.undef,.undef,.undef,.undef,.undef,.undef,.undef,.undef,.undef,.undef,.undef,.undef,.undef,.undef,.undef,.undef,.undef,.undef,.undef,.undef,.undef,.undef,.undef,.undef,.undef,.undef,.undef],[]⟩=f17_N k c27 c28 c57 (fun y0 y1=>retF (y0,y1)) p1 p2 :=
 (f17_e_mem k c27 c28 c57 retF p1 p2).trans (by rw [show (fun n7 p8=>f17_w1A k c27 c28 c57 retF p2 n7 p8)=(fun n7 p8=>f17_w1N k c27 c28 c57 (fun y0 y1=>retF (y0,y1)) p2 n7 p8) from funext fun n7=>funext fun p8=>f17_w1_eq k c27 c28 c57 retF p2 n7 p8];rfl)

noncomputable def G17:Nat→PV→PV→(PV→Int→R)→R
 | 0,_,_,_=>none
 | k+1,p1,p2,ret0=>f17_N k (G27 k) (G28 k) (G57 k) ret0 p1 p2
theorem S17:∀ k,Snd Try.prog 17 f17_I f17_O (fun x ret=>G17 k x.1 x.2 (fun y0 y1=>ret (y0,y1)))
 | 0=>snd_none
 | k+1=>snd_step (E:=f17_E k (G27 k) (G28 k) (G57 k)) rfl laidOut noNums (orc_ok (S27 k).o f27_D_ok (orc_ok (S28 k).o f28_D_ok (orc_ok (S57 k).o f57_D_ok orc0_ok))) (f:=17) (fn:=Try.f17) (code:=f17_code) Try.func17 (by kernel_rfl) (drawsOk_of laidOut (orc_ok (S27 k).o f27_D_ok (orc_ok (S28 k).o f28_D_ok (orc_ok (S57 k).o f57_D_ok orc0_ok))) mixed (by kernel_rfl)) f17_un f17_un_ok [] (fun _=>rfl)
   (fun x ret=>f17_eq k (G27 k) (G28 k) (G57 k) ret x.1 x.2)

/- (*catchpole/lang.Table).add -/
noncomputable def f95_I:PV × PV × (List HE)→List SV × Obs:=fun x=>([.hval 76 x.1,.val 27 x.2.1],[(1000000000000,.hp x.2.2)])
noncomputable def f95_D:List SV→Obs→Option (PV × PV × (List HE))
 | [.hval 76 p1,.val 27 p2],[(1000000000000,.hp h3)]=>some (p1,p2,h3)
 | _,_=>none
theorem f95_D_ok (args:List SV)(B:Obs)(x:PV × PV × (List HE))(h:f95_D args B=some x):f95_I x=(args,B):=by
 unfold f95_D at h
 split at h
 ·injection h with h;subst h;rfl
 ·cases h
noncomputable def f95_O:Int × (List HE)→Out:=(fun y=>([.int .i64 y.1],[(1000000000000,.hp y.2)]))
noncomputable def f95_un:Out→Option (Int × (List HE))
 | ([.int .i64 y0],[(1000000000000,.hp y1)])=>some (y0,y1)
 | _=>none
theorem f95_un_ok (o:Out)(y:Int × (List HE))(h:f95_un o=some y):o=f95_O y:=by
 unfold f95_un at h
 split at h
 ·injection h with h;subst h;rfl
 ·cases h
noncomputable def f95_msk:Nat→Option (List Nat):=fun key=>bif key==12 then some [0,5,26,27,28] else none
noncomputable def f95_C (c95:PV→PV→(List HE)→(Int→(List HE)→R)→R):Oracle:=orc 95 f95_D f95_O (fun x ret=>c95 x.1 x.2.1 x.2.2 (fun y0 y1=>ret (y0,y1))) <| orc0
noncomputable def f95_E (k:Nat)(c95:PV→PV→(List HE)→(Int→(List HE)→R)→R):Env:={ P:=Try.prog,nilOwn:=fun d=>false,fldOwn:=fun d i=>false,ownPar:=ownPars,ownRet:=false,hpD:=fun d=>d==20 || d==21 || d==49,hpF:=hpFs,hpNew:=false,mask:=f95_msk,fuel:=k,C:=f95_C c95 }
noncomputable def f95_code:Code:=Try.f95.body.getD .skip
noncomputable def f95_cw1:Code:=subC f95_code [1,1,1,0,1,0,0]
noncomputable def f95_hw1_0 (p1:PV)(p2:PV)(h3:List HE)(n13:Int)(h14:List HE):St:=⟨[.hval 76 p1,.dead,.dead,.dead,.dead,.int .i64 ((PV.rN (PV.fld (hvarOf h3 (PV.rI p1)) 0)):Int),.dead,.dead,.dead,.dead,.dead,.dead,.dead,.dead,.dead,.dead,.dead,.dead,.dead,.dead,.dead,.dead,.dead,.dead,.dead,.dead,.val 25 (PV.fld p2 3),.int .i64 (List.length (PV.els (PV.fld p2 3)):Int),.int .i64 n13,.dead,.dead,.dead,.dead,.dead,.dead,.dead,.dead,.dead,.dead,.dead,.dead,.dead,.dead,.dead,.dead,.dead,.dead,.dead,.dead,.dead,.dead,.dead,.dead,.dead,.dead],[(1000000000000,.hp h14)]⟩
noncomputable def f95_w1A (k:Nat)(c95:PV→PV→(List HE)→(Int→(List HE)→R)→R)(retF:Int × (List HE)→R)(p1:PV)(p2:PV)(h3:List HE)(n13:Int)(h14:List HE):R:=loopM (f95_E k c95) f95_cw1 (kont (f95_E k c95) f95_code [1,1,1,0,1,0] (endK (f95_E k c95) Try.f95 [1000000000000] f95_un retF)) k (f95_hw1_0 p1 p2 h3 n13 h14)
noncomputable def f95_w1b0 (c95:PV→PV→(List HE)→(Int→(List HE)→R)→R)(ret0:Int→(List HE)→R)(next_w1_0:Int→(List HE)→R)(p1:PV)(p2:PV)(h3:List HE)(n13:Int)(h14:List HE):R :=
 bif (decide (n13 < (List.length (PV.els (PV.fld p2 3)):Int))) then
 bif (true&&decide ((0:Int)≤n13)&&decide (n13 < (List.length (PV.els (PV.fld p2 3)):Int))) then
 c95 p1 (List.getD (PV.els (PV.fld p2 3)) (n13).toNat PV.nil) h14 fun n15 h16 =>
 bif (PV.isRp p1) then
 bif (true&&true&&(hokV h16 86 (PV.rI p1))) then
 bif (PV.isRp p1) then
 bif (true&&true&&(hokV h16 86 (PV.rI p1))) then
 bif (true&&decide ((0:Int)≤((PV.rN (PV.fld (hvarOf h3 (PV.rI p1)) 0)):Int))&&decide (((PV.rN (PV.fld (hvarOf h3 (PV.rI p1)) 0)):Int) < ((PV.rN (PV.fld (hvarOf h16 (PV.rI p1)) 0)):Int))) then
 bif (true&&true&&(hokR h16 118 (PV.rI (PV.fld (hvarOf h16 (PV.rI p1)) 0)) ((PV.rN (PV.fld (hvarOf h3 (PV.rI p1)) 0)):Int))) then
 let p17:PV:=(PV.fld (List.getD (hrowOf h16 (PV.rI (PV.fld (hvarOf h16 (PV.rI p1)) 0))) (((PV.rN (PV.fld (hvarOf h3 (PV.rI p1)) 0)):Int)).toNat PV.nil) 1)
 let h18:List HE:=(h16++[HE.row 3 [(PV.int n15)]])
 bif ((true&&((true&&true)&&((true&&true)&&((true&&true)&&((hokV h18 86 (PV.rI p1))&&(!((PV.isRs p17)&&(PV.rI p17)==(PV.rI p1))))))))&&(true&&true)) then
 bif (hokS h18 3 p17&&hokS h18 3 (PV.rs (List.length h16) 1)&&true&&true&&true&&true&&true&&true&&((PV.isRs p17) || decide (0 < 1))&&roomy ((PV.rN p17)+1) 8) then
 let h19:List HE:=(hgone h18 p17++[HE.row 3 (hels h18 p17++hels h18 (PV.rs (List.length h16) 1))])
 bif (true&&decide ((0:Int)≤((PV.rN (PV.fld (hvarOf h3 (PV.rI p1)) 0)):Int))&&decide (((PV.rN (PV.fld (hvarOf h3 (PV.rI p1)) 0)):Int) < ((PV.rN (PV.fld (hvarOf h16 (PV.rI p1)) 0)):Int))) then
 bif (true&&(hokR h19 118 (PV.rI (PV.fld (hvarOf h16 (PV.rI p1)) 0)) ((PV.rN (PV.fld (hvarOf h3 (PV.rI p1)) 0)):Int))) then
 let h20:List HE:=(List.set h19 (PV.rI (PV.fld (hvarOf h16 (PV.rI p1)) 0)) (HE.row 118 (List.set (hrowOf h19 (PV.rI (PV.fld (hvarOf h16 (PV.rI p1)) 0))) (((PV.rN (PV.fld (hvarOf h3 (PV.rI p1)) 0)):Int)).toNat (PV.agg (List.set (PV.flds (List.getD (hrowOf h19 (PV.rI (PV.fld (hvarOf h16 (PV.rI p1)) 0))) (((PV.rN (PV.fld (hvarOf h3 (PV.rI p1)) 0)):Int)).toNat PV.nil)) 1 (PV.rs (List.length h18) ((PV.rN p17)+1)))))))
 next_w1_0 (IntKind.wrap .i64 (n13+(1:Int))) h20
 else none
 else none
 else none
 else none
 else none
 else none
 else none
 else none
 else none
 else none
 else none
 else ret0 ((PV.rN (PV.fld (hvarOf h3 (PV.rI p1)) 0)):Int) h14

theorem f95_w1b0_mem (k:Nat)(c95:PV→PV→(List HE)→(Int→(List HE)→R)→R)(retF:Int × (List HE)→R)(NX_w1:St→R)(p1:PV)(p2:PV)(h3:List HE)(n13:Int)(h14:List HE):exec (f95_E k c95) f95_cw1 (purgeK (f95_E k c95) f95_cw1 (loopK NX_w1 (kont (f95_E k c95) f95_code [1,1,1,0,1,0] (endK (f95_E k c95) Try.f95 [1000000000000] f95_un retF)))) (f95_hw1_0 p1 p2 h3 n13 h14)=f95_w1b0 c95 (fun y0 y1=>retF (y0,y1)) (fun n13 h14=>NX_w1 (f95_hw1_0 p1 p2 h3 n13 h14)) p1 p2 h3 n13 h14:=by kernel_rfl

noncomputable def f95_w1b0N (k:Nat)(c95:PV→PV→(List HE)→(Int→(List HE)→R)→R)(ret0:Int→(List HE)→R)(next_w1_0:Int→(List HE)→R)(p1:PV)(p2:PV)(h3:List HE)(n13:Int)(h14:List HE):R :=
 f95_w1b0 c95 ret0 next_w1_0 p1 p2 h3 n13 h14
theorem f95_w1b0_eq (k:Nat)(c95:PV→PV→(List HE)→(Int→(List HE)→R)→R)(retF:Int × (List HE)→R)(NX_w1:St→R)(p1:PV)(p2:PV)(h3:List HE)(n13:Int)(h14:List HE):exec (f95_E k c95) f95_cw1 (purgeK (f95_E k c95) f95_cw1 (loopK NX_w1 (kont (f95_E k c95) f95_code [1,1,1,0,1,0] (endK (f95_E k c95) Try.f95 [1000000000000] f95_un retF)))) (f95_hw1_0 p1 p2 h3 n13 h14)=f95_w1b0N k c95 (fun y0 y1=>retF (y0,y1)) (fun n13 h14=>NX_w1 (f95_hw1_0 p1 p2 h3 n13 h14)) p1 p2 h3 n13 h14 :=
 (f95_w1b0_mem k c95 retF NX_w1 p1 p2 h3 n13 h14)

noncomputable def f95_w1B (k:Nat)(c95:PV→PV→(List HE)→(Int→(List HE)→R)→R)(ret0:Int→(List HE)→R)(p1:PV)(p2:PV)(h3:List HE)(nx:Int × (List HE)→R):Int × (List HE)→R:=(fun s=>f95_w1b0N k c95 ret0 (fun n13 h14=>nx (n13,h14)) p1 p2 h3 s.1 s.2)
noncomputable def f95_w1N (k:Nat)(c95:PV→PV→(List HE)→(Int→(List HE)→R)→R)(ret0:Int→(List HE)→R)(p1:PV)(p2:PV)(h3:List HE)(n13:Int)(h14:List HE):R:=loopR (f95_w1B k c95 ret0 p1 p2 h3) k (n13,h14)
theorem f95_w1_eq (k:Nat)(c95:PV→PV→(List HE)→(Int→(List HE)→R)→R)(retF:Int × (List HE)→R)(p1:PV)(p2:PV)(h3:List HE)(n13:Int)(h14:List HE):f95_w1A k c95 retF p1 p2 h3 n13 h14=f95_w1N k c95 (fun y0 y1=>retF (y0,y1)) p1 p2 h3 n13 h14 :=
 Eq.mp (by kernel_rfl) (loop_sim (E:=(f95_E k c95)) (c:=f95_cw1) (K:=(kont (f95_E k c95) f95_code [1,1,1,0,1,0] (endK (f95_E k c95) Try.f95 [1000000000000] f95_un retF))) (S:=Int × (List HE)) (fun s=>f95_hw1_0 p1 p2 h3 s.1 s.2) (f95_w1B k c95 (fun y0 y1=>retF (y0,y1)) p1 p2 h3) (fun NX s=>by
  exact Eq.mp (by kernel_rfl) (f95_w1b0_eq k c95 retF NX p1 p2 h3 s.1 s.2)) k (n13,h14))

noncomputable def f95_e (c95:PV→PV→(List HE)→(Int→(List HE)→R)→R)(ret0:Int→(List HE)→R)(w1:Int→(List HE)→R)(p1:PV)(p2:PV)(h3:List HE):R :=
 bif (PV.isRp p1) then
 bif (true&&true&&(hokV h3 86 (PV.rI p1))) then
 bif (PV.isRp p1) then
 bif (true&&true&&(hokV h3 86 (PV.rI p1))) then
 let h4:List HE:=(h3++[HE.row 118 [(PV.agg [p2,(PV.list [])])]])
 bif (hokS h4 118 (PV.fld (hvarOf h3 (PV.rI p1)) 0)&&hokS h4 118 (PV.rs (List.length h3) 1)&&true&&true&&true&&true&&true&&true&&((PV.isRs (PV.fld (hvarOf h3 (PV.rI p1)) 0)) || decide (0 < 1))&&roomy ((PV.rN (PV.fld (hvarOf h3 (PV.rI p1)) 0))+1) 96) then
 let h5:List HE:=(hgone h4 (PV.fld (hvarOf h3 (PV.rI p1)) 0)++[HE.row 118 (hels h4 (PV.fld (hvarOf h3 (PV.rI p1)) 0)++hels h4 (PV.rs (List.length h3) 1))])
 bif (PV.isRp p1) then
 bif (true&&(hokV h5 86 (PV.rI p1))) then
 let h6:List HE:=(List.set h5 (PV.rI p1) (HE.var 86 (PV.agg (List.set (PV.flds (hvarOf h5 (PV.rI p1))) 0 (PV.rs (List.length h4) ((PV.rN (PV.fld (hvarOf h3 (PV.rI p1)) 0))+1))))))
 w1 0 h6
 else none
 else none
 else none
 else none
 else none
 else none
 else none

theorem f95_e_mem (k:Nat)(c95:PV→PV→(List HE)→(Int→(List HE)→R)→R)(retF:Int × (List HE)→R)(p1:PV)(p2:PV)(h3:List HE):exec (f95_E k c95) f95_code (endK (f95_E k c95) Try.f95 [1000000000000] f95_un retF) ⟨[.hval 76 p1,.val 27 p2,.undef,.undef,.undef,.undef,.undef,.undef,.undef,.undef,.undef,.undef,.undef,.undef,.undef,.undef,.undef,.undef,.undef,.undef,.undef,.undef,.undef,.undef,.undef,.undef,.undef,.undef,.undef,.undef,.undef,.undef,.undef,.undef,.undef,.undef,.undef,.undef,.undef,.undef,.undef,.undef,.undef,.undef,.undef,.undef,.undef,.undef,.undef,.undef,.undef,.undef,.undef,.undef,.undef],[(1000000000000,.hp h3)]⟩=f95_e c95 (fun y0 y1=>retF (y0,y1)) (fun n13 h14=>f95_w1A k c95 retF p1 p2 h3 n13 h14) p1 p2 h3:=by kernel_rfl

noncomputable def f95_N (k:Nat)(c95:PV→PV→(List HE)→(Int→(List HE)→R)→R)(ret0:Int→(List HE)→R)(p1:PV)(p2:PV)(h3:List HE):R :=
 f95_e c95 ret0 (fun n13 h14=>f95_w1N k c95 ret0 p1 p2 h3 n13 h14) p1 p2 h3
theorem f95_eq (k:Nat)(c95:PV→PV→(List HE)→(Int→(List HE)→R)→R)(retF:Int × (List HE)→R)(p1:PV)(p2:PV)(h3:List HE):exec (f95_E k c95) f95_code (endK (f95_E k c95) Try.f95 [1000000000000] f95_un retF) ⟨[.hval 76 p1,.val 27 p2,.undef,.undef,.undef,.undef,.undef,.undef,.undef,.undef,.undef,.undef,.undef,.undef,.undef,.undef,.undef,.undef,.undef,.undef,.undef,.undef,.undef,.undef,.undef,.undef,.undef,.undef,.undef,.undef,.undef,.undef,.undef,.undef,.undef,.undef,.undef,.undef,.undef,.undef,.undef,.undef,.undef,.undef,.undef,.undef,.undef,.undef,.undef,.undef,.undef,.undef,.undef,.undef,.undef],[(1000000000000,.hp h3)]⟩=f95_N k c95 (fun y0 y1=>retF (y0,y1)) p1 p2 h3 :=
 (f95_e_mem k c95 retF p1 p2 h3).trans (by rw [show (fun n13 h14=>f95_w1A k c95 retF p1 p2 h3 n13 h14)=(fun n13 h14=>f95_w1N k c95 (fun y0 y1=>retF (y0,y1)) p1 p2 h3 n13 h14) from funext fun n13=>funext fun h14=>f95_w1_eq k c95 retF p1 p2 h3 n13 h14];rfl)

noncomputable def G95:Nat→PV→PV→(List HE)→(Int→(List HE)→R)→R
 | 0,_,_,_,_=>none
 | k+1,p1,p2,h3,ret0=>f95_N k (G95 k) ret0 p1 p2 h3
theorem S95:∀ k,Snd Try.prog 95 f95_I f95_O (fun x ret=>G95 k x.1 x.2.1 x.2.2 (fun y0 y1=>ret (y0,y1)))
 | 0=>snd_none
 | k+1=>snd_step (E:=f95_E k (G95 k)) rfl laidOut noNums (orc_ok (S95 k).o f95_D_ok orc0_ok) (f:=95) (fn:=Try.f95) (code:=f95_code) Try.func95 (by kernel_rfl) (drawsOk_of laidOut (orc_ok (S95 k).o f95_D_ok orc0_ok) mixed (by kernel_rfl)) f95_un f95_un_ok [1000000000000] (fun _=>rfl)
   (fun x ret=>f95_eq k (G95 k) ret x.1 x.2.1 x.2.2)

/- catchpole/lang.New -/
noncomputable def f66_I:PV × PV × (List HE)→List SV × Obs:=fun x=>([.val 27 x.1,.val 28 x.2.1],[(1000000000000,.hp x.2.2)])
noncomputable def f66_D:List SV→Obs→Option (PV × PV × (List HE))
 | [.val 27 p1,.val 28 p2],[(1000000000000,.hp h3)]=>some (p1,p2,h3)
 | _,_=>none
theorem f66_D_ok (args:List SV)(B:Obs)(x:PV × PV × (List HE))(h:f66_D args B=some x):f66_I x=(args,B):=by
 unfold f66_D at h
 split at h
 ·injection h with h;subst h;rfl
 ·cases h
noncomputable def f66_O:PV × (List HE)→Out:=(fun y=>([.hval 76 y.1],[(1000000000000,.hp y.2)]))
noncomputable def f66_un:Out→Option (PV × (List HE))
 | ([.hval 76 y0],[(1000000000000,.hp y1)])=>some (y0,y1)
 | _=>none
theorem f66_un_ok (o:Out)(y:PV × (List HE))(h:f66_un o=some y):o=f66_O y:=by
 unfold f66_un at h
 split at h
 ·injection h with h;subst h;rfl
 ·cases h
noncomputable def f66_msk:Nat→Option (List Nat):=fun key=> none
noncomputable def f66_C (c95:PV→PV→(List HE)→(Int→(List HE)→R)→R):Oracle:=orc 95 f95_D f95_O (fun x ret=>c95 x.1 x.2.1 x.2.2 (fun y0 y1=>ret (y0,y1))) <| orc0
noncomputable def f66_E (k:Nat)(c95:PV→PV→(List HE)→(Int→(List HE)→R)→R):Env:={ P:=Try.prog,nilOwn:=fun d=>false,fldOwn:=fun d i=>false,ownPar:=ownPars,ownRet:=false,hpD:=fun d=>d==7 || d==8 || d==18,hpF:=hpFs,hpNew:=false,mask:=f66_msk,fuel:=k,C:=f66_C c95 }
noncomputable def f66_code:Code:=Try.f66.body.getD .skip
noncomputable def f66_e (c95:PV→PV→(List HE)→(Int→(List HE)→R)→R)(ret0:PV→(List HE)→R)(p1:PV)(p2:PV)(h3:List HE):R :=
 let h4:List HE:=(h3++[HE.var 86 (PV.agg [(PV.list []),p2,(PV.list [])])])
 c95 (PV.rp (List.length h3)) p1 h4 fun n5 h6 =>
 bif (true&&true&&(hokV h6 86 (List.length h3))) then
 bif (true&&(true&&decide ((0:Int)≤((PV.rN (PV.fld (hvarOf h6 (List.length h3)) 0)):Int))&&decide (((PV.rN (PV.fld (hvarOf h6 (List.length h3)) 0)):Int)=((PV.rN (PV.fld (hvarOf h6 (List.length h3)) 0)):Int))&&roomy (((PV.rN (PV.fld (hvarOf h6 (List.length h3)) 0)):Int)).toNat 24)) then
 let h7:List HE:=(h6++[HE.row 137 (List.replicate (((PV.rN (PV.fld (hvarOf h6 (List.length h3)) 0)):Int)).toNat (PV.list []))])
 bif (true&&(hokV h7 86 (List.length h3))) then
 let h8:List HE:=(List.set h7 (List.length h3) (HE.var 86 (PV.agg (List.set (PV.flds (hvarOf h7 (List.length h3))) 2 (PV.rs (List.length h6) (((PV.rN (PV.fld (hvarOf h6 (List.length h3)) 0)):Int)).toNat)))))
 ret0 (PV.rp (List.length h3)) h8
 else none
 else none
 else none

theorem f66_e_mem (k:Nat)(c95:PV→PV→(List HE)→(Int→(List HE)→R)→R)(retF:PV × (List HE)→R)(p1:PV)(p2:PV)(h3:List HE):exec (f66_E k c95) f66_code (endK (f66_E k c95) Try.f66 [1000000000000] f66_un retF) ⟨[.val 27 p1,.val 28 p2,.undef,.undef,.undef,.undef,.undef,.undef,.undef,.undef,.undef,.undef,.undef,.undef,.undef,.undef,.undef,.undef,.undef,.undef,.undef,.undef],[(1000000000000,.hp h3)]⟩=f66_e c95 (fun y0 y1=>retF (y0,y1)) p1 p2 h3:=by kernel_rfl

noncomputable def f66_N (k:Nat)(c95:PV→PV→(List HE)→(Int→(List HE)→R)→R)(ret0:PV→(List HE)→R)(p1:PV)(p2:PV)(h3:List HE):R :=
 f66_e c95 ret0 p1 p2 h3
theorem f66_eq (k:Nat)(c95:PV→PV→(List HE)→(Int→(List HE)→R)→R)(retF:PV × (List HE)→R)(p1:PV)(p2:PV)(h3:List HE):exec (f66_E k c95) f66_code (endK (f66_E k c95) Try.f66 [1000000000000] f66_un retF) ⟨[.val 27 p1,.val 28 p2,.undef,.undef,.undef,.undef,.undef,.undef,.undef,.undef,.undef,.undef,.undef,.undef,.undef,.undef,.undef,.undef,.undef,.undef,.undef,.undef],[(1000000000000,.hp h3)]⟩=f66_N k c95 (fun y0 y1=>retF (y0,y1)) p1 p2 h3 :=
 (f66_e_mem k c95 retF p1 p2 h3)

noncomputable def G66:Nat→PV→PV→(List HE)→(PV→(List HE)→R)→R
 | 0,_,_,_,_=>none
 | k+1,p1,p2,h3,ret0=>f66_N k (G95 k) ret0 p1 p2 h3
theorem S66:∀ k,Snd Try.prog 66 f66_I f66_O (fun x ret=>G66 k x.1 x.2.1 x.2.2 (fun y0 y1=>ret (y0,y1)))
 | 0=>snd_none
 | k+1=>snd_step (E:=f66_E k (G95 k)) rfl laidOut noNums (orc_ok (S95 k).o f95_D_ok orc0_ok) (f:=66) (fn:=Try.f66) (code:=f66_code) Try.func66 (by kernel_rfl) (drawsOk_of laidOut (orc_ok (S95 k).o f95_D_ok orc0_ok) mixed (by kernel_rfl)) f66_un f66_un_ok [1000000000000] (fun _=>rfl)
   (fun x ret=>f66_eq k (G95 k) ret x.1 x.2.1 x.2.2)

/- (*catchpole/lang.places).put -/
noncomputable def f113_I:PV × Int × (List HE)→List SV × Obs:=fun x=>([.hval 114 x.1,.int .i64 x.2.1],[(1000000000000,.hp x.2.2)])
noncomputable def f113_D:List SV→Obs→Option (PV × Int × (List HE))
 | [.hval 114 p1,.int .i64 n2],[(1000000000000,.hp h3)]=>some (p1,n2,h3)
 | _,_=>none
theorem f113_D_ok (args:List SV)(B:Obs)(x:PV × Int × (List HE))(h:f113_D args B=some x):f113_I x=(args,B):=by
 unfold f113_D at h
 split at h
 ·injection h with h;subst h;rfl
 ·cases h
noncomputable def f113_O:(List HE)→Out:=(fun y=>([],[(1000000000000,.hp y)]))
noncomputable def f113_un:Out→Option ((List HE))
 | ([],[(1000000000000,.hp y0)])=>some y0
 | _=>none
theorem f113_un_ok (o:Out)(y:(List HE))(h:f113_un o=some y):o=f113_O y:=by
 unfold f113_un at h
 split at h
 ·injection h with h;subst h;rfl
 ·cases h
noncomputable def f113_msk:Nat→Option (List Nat):=fun key=> none
noncomputable def f113_C:Oracle:=orc0
noncomputable def f113_E (k:Nat):Env:={ P:=Try.prog,nilOwn:=fun d=>false,fldOwn:=fun d i=>false,ownPar:=ownPars,ownRet:=false,hpD:=fun d=>false,hpF:=hpFs,hpNew:=false,mask:=f113_msk,fuel:=k,C:=f113_C }
noncomputable def f113_code:Code:=Try.f113.body.getD .skip
noncomputable def f113_e (ret0:(List HE)→R)(p1:PV)(n2:Int)(h3:List HE):R :=
 bif (PV.isRp p1) then
 bif (true&&decide ((0:Int)≤(IntKind.wrap .i64 (Int.tdiv n2 64)))&&decide ((IntKind.wrap .i64 (Int.tdiv n2 64)) < 5)) then
 bif (true&&true&&(hokV h3 139 (PV.rI p1))) then
 bif (decide ((0:Int)≤(Int.tmod n2 64))) then
 let n4:Int:=(intBit .or .u64 (PV.num (PV.fld (hvarOf h3 (PV.rI p1)) ((IntKind.wrap .i64 (Int.tdiv n2 64))).toNat)) (IntKind.wrap .u64 ((1:Int) * 2 ^ (min ((Int.tmod n2 64)).toNat 64))))
 bif (PV.isRp p1) then
 bif (true&&decide ((0:Int)≤(IntKind.wrap .i64 (Int.tdiv n2 64)))&&decide ((IntKind.wrap .i64 (Int.tdiv n2 64)) < 5)) then
 bif (true&&(hokV h3 139 (PV.rI p1))) then
 let h5:List HE:=(List.set h3 (PV.rI p1) (HE.var 139 (PV.agg (List.set (PV.flds (hvarOf h3 (PV.rI p1))) ((IntKind.wrap .i64 (Int.tdiv n2 64))).toNat (PV.int n4)))))
 ret0 h5
 else none
 else none
 else none
 else none
 else none
 else none
 else none

theorem f113_e_mem (k:Nat)(retF:(List HE)→R)(p1:PV)(n2:Int)(h3:List HE):exec (f113_E k) f113_code (endK (f113_E k) Try.f113 [1000000000000] f113_un retF) ⟨[.hval 114 p1,.int .i64 n2,.undef,.undef,.undef,.undef,.undef,.undef,.undef,.undef,.undef,.undef,.undef,.undef,.undef,.undef],[(1000000000000,.hp h3)]⟩=f113_e (fun y0=>retF y0) p1 n2 h3:=by kernel_rfl

noncomputable def f113_N (k:Nat)(ret0:(List HE)→R)(p1:PV)(n2:Int)(h3:List HE):R :=
 f113_e ret0 p1 n2 h3
theorem f113_eq (k:Nat)(retF:(List HE)→R)(p1:PV)(n2:Int)(h3:List HE):exec (f113_E k) f113_code (endK (f113_E k) Try.f113 [1000000000000] f113_un retF) ⟨[.hval 114 p1,.int .i64 n2,.undef,.undef,.undef,.undef,.undef,.undef,.undef,.undef,.undef,.undef,.undef,.undef,.undef,.undef],[(1000000000000,.hp h3)]⟩=f113_N k (fun y0=>retF y0) p1 n2 h3 :=
 (f113_e_mem k retF p1 n2 h3)

noncomputable def G113:Nat→PV→Int→(List HE)→((List HE)→R)→R
 | 0,_,_,_,_=>none
 | k+1,p1,n2,h3,ret0=>f113_N k  ret0 p1 n2 h3
theorem S113:∀ k,Snd Try.prog 113 f113_I f113_O (fun x ret=>G113 k x.1 x.2.1 x.2.2 (fun y0=>ret y0))
 | 0=>snd_none
 | k+1=>snd_step (E:=f113_E k ) rfl laidOut noNums orc0_ok (f:=113) (fn:=Try.f113) (code:=f113_code) Try.func113 (by kernel_rfl) (drawsOk_of laidOut orc0_ok mixed (by kernel_rfl)) f113_un f113_un_ok [1000000000000] (fun _=>rfl)
   (fun x ret=>f113_eq k  ret x.1 x.2.1 x.2.2)

/- (*catchpole/lang.places).has -/
noncomputable def f97_I:PV × Int × (List HE)→List SV × Obs:=fun x=>([.hval 114 x.1,.int .i64 x.2.1],[(1000000000000,.hp x.2.2)])
noncomputable def f97_D:List SV→Obs→Option (PV × Int × (List HE))
 | [.hval 114 p1,.int .i64 n2],[(1000000000000,.hp h3)]=>some (p1,n2,h3)
 | _,_=>none
theorem f97_D_ok (args:List SV)(B:Obs)(x:PV × Int × (List HE))(h:f97_D args B=some x):f97_I x=(args,B):=by
 unfold f97_D at h
 split at h
 ·injection h with h;subst h;rfl
 ·cases h
noncomputable def f97_O:Bool × (List HE)→Out:=(fun y=>([.bool y.1],[(1000000000000,.hp y.2)]))
noncomputable def f97_un:Out→Option (Bool × (List HE))
 | ([.bool y0],[(1000000000000,.hp y1)])=>some (y0,y1)
 | _=>none
theorem f97_un_ok (o:Out)(y:Bool × (List HE))(h:f97_un o=some y):o=f97_O y:=by
 unfold f97_un at h
 split at h
 ·injection h with h;subst h;rfl
 ·cases h
noncomputable def f97_msk:Nat→Option (List Nat):=fun key=> none
noncomputable def f97_C:Oracle:=orc0
noncomputable def f97_E (k:Nat):Env:={ P:=Try.prog,nilOwn:=fun d=>false,fldOwn:=fun d i=>false,ownPar:=ownPars,ownRet:=false,hpD:=fun d=>false,hpF:=hpFs,hpNew:=false,mask:=f97_msk,fuel:=k,C:=f97_C }
noncomputable def f97_code:Code:=Try.f97.body.getD .skip
noncomputable def f97_e (ret0:Bool→(List HE)→R)(p1:PV)(n2:Int)(h3:List HE):R :=
 bif (PV.isRp p1) then
 bif (true&&decide ((0:Int)≤(IntKind.wrap .i64 (Int.tdiv n2 64)))&&decide ((IntKind.wrap .i64 (Int.tdiv n2 64)) < 5)) then
 bif (true&&true&&(hokV h3 139 (PV.rI p1))) then
 bif (decide ((0:Int)≤(Int.tmod n2 64))) then
 let n4:Int:=(Int.fdiv (PV.num (PV.fld (hvarOf h3 (PV.rI p1)) ((IntKind.wrap .i64 (Int.tdiv n2 64))).toNat)) (2 ^ (min ((Int.tmod n2 64)).toNat 64)))
 ret0 (decide ((intBit .and .u64 n4 1)=(1:Int))) h3
 else none
 else none
 else none
 else none

theorem f97_e_mem (k:Nat)(retF:Bool × (List HE)→R)(p1:PV)(n2:Int)(h3:List HE):exec (f97_E k) f97_code (endK (f97_E k) Try.f97 [1000000000000] f97_un retF) ⟨[.hval 114 p1,.int .i64 n2,.undef,.undef,.undef,.undef,.undef,.undef,.undef,.undef,.undef,.undef,.undef,.undef,.undef,.undef],[(1000000000000,.hp h3)]⟩=f97_e (fun y0 y1=>retF (y0,y1)) p1 n2 h3:=by kernel_rfl

noncomputable def f97_N (k:Nat)(ret0:Bool→(List HE)→R)(p1:PV)(n2:Int)(h3:List HE):R :=
 f97_e ret0 p1 n2 h3
theorem f97_eq (k:Nat)(retF:Bool × (List HE)→R)(p1:PV)(n2:Int)(h3:List HE):exec (f97_E k) f97_code (endK (f97_E k) Try.f97 [1000000000000] f97_un retF) ⟨[.hval 114 p1,.int .i64 n2,.undef,.undef,.undef,.undef,.undef,.undef,.undef,.undef,.undef,.undef,.undef,.undef,.undef,.undef],[(1000000000000,.hp h3)]⟩=f97_N k (fun y0 y1=>retF (y0,y1)) p1 n2 h3 :=
 (f97_e_mem k retF p1 n2 h3)

noncomputable def G97:Nat→PV→Int→(List HE)→(Bool→(List HE)→R)→R
 | 0,_,_,_,_=>none
 | k+1,p1,n2,h3,ret0=>f97_N k  ret0 p1 n2 h3
theorem S97:∀ k,Snd Try.prog 97 f97_I f97_O (fun x ret=>G97 k x.1 x.2.1 x.2.2 (fun y0 y1=>ret (y0,y1)))
 | 0=>snd_none
 | k+1=>snd_step (E:=f97_E k ) rfl laidOut noNums orc0_ok (f:=97) (fn:=Try.f97) (code:=f97_code) Try.func97 (by kernel_rfl) (drawsOk_of laidOut orc0_ok mixed (by kernel_rfl)) f97_un f97_un_ok [1000000000000] (fun _=>rfl)
   (fun x ret=>f97_eq k  ret x.1 x.2.1 x.2.2)

/- (*catchpole/lang.places).or -/
noncomputable def f114_I:PV × PV × (List HE)→List SV × Obs:=fun x=>([.hval 114 x.1,.hval 114 x.2.1],[(1000000000000,.hp x.2.2)])
noncomputable def f114_D:List SV→Obs→Option (PV × PV × (List HE))
 | [.hval 114 p1,.hval 114 p2],[(1000000000000,.hp h3)]=>some (p1,p2,h3)
 | _,_=>none
theorem f114_D_ok (args:List SV)(B:Obs)(x:PV × PV × (List HE))(h:f114_D args B=some x):f114_I x=(args,B):=by
 unfold f114_D at h
 split at h
 ·injection h with h;subst h;rfl
 ·cases h
noncomputable def f114_O:(List HE)→Out:=(fun y=>([],[(1000000000000,.hp y)]))
noncomputable def f114_un:Out→Option ((List HE))
 | ([],[(1000000000000,.hp y0)])=>some y0
 | _=>none
theorem f114_un_ok (o:Out)(y:(List HE))(h:f114_un o=some y):o=f114_O y:=by
 unfold f114_un at h
 split at h
 ·injection h with h;subst h;rfl
 ·cases h
noncomputable def f114_msk:Nat→Option (List Nat):=fun key=>bif key==3 then some [0,1,5] else none
noncomputable def f114_C:Oracle:=orc0
noncomputable def f114_E (k:Nat):Env:={ P:=Try.prog,nilOwn:=fun d=>false,fldOwn:=fun d i=>false,ownPar:=ownPars,ownRet:=false,hpD:=fun d=>false,hpF:=hpFs,hpNew:=false,mask:=f114_msk,fuel:=k,C:=f114_C }
noncomputable def f114_code:Code:=Try.f114.body.getD .skip
noncomputable def f114_cw1:Code:=subC f114_code [1,0,0]
noncomputable def f114_hw1_0 (p1:PV)(p2:PV)(n6:Int)(h7:List HE):St:=⟨[.hval 114 p1,.hval 114 p2,.dead,.dead,.dead,.int .i64 n6,.dead,.dead,.dead,.dead,.dead,.dead,.dead,.dead,.dead,.dead,.dead,.dead,.dead,.dead,.dead,.dead],[(1000000000000,.hp h7)]⟩
noncomputable def f114_w1A (k:Nat)(retF:(List HE)→R)(p1:PV)(p2:PV)(n6:Int)(h7:List HE):R:=loopM (f114_E k) f114_cw1 (kont (f114_E k) f114_code [1,0] (endK (f114_E k) Try.f114 [1000000000000] f114_un retF)) k (f114_hw1_0 p1 p2 n6 h7)
noncomputable def f114_w1b0 (ret0:(List HE)→R)(next_w1_0:Int→(List HE)→R)(p1:PV)(p2:PV)(n6:Int)(h7:List HE):R :=
 bif (decide (n6 < (5:Int))) then
 bif (PV.isRp p1) then
 bif (true&&decide ((0:Int)≤n6)&&decide (n6 < 5)) then
 bif (true&&true&&(hokV h7 139 (PV.rI p1))) then
 bif (PV.isRp p2) then
 bif (true&&decide ((0:Int)≤n6)&&decide (n6 < 5)) then
 bif (true&&true&&(hokV h7 139 (PV.rI p2))) then
 let n8:Int:=(intBit .or .u64 (PV.num (PV.fld (hvarOf h7 (PV.rI p1)) (n6).toNat)) (PV.num (PV.fld (hvarOf h7 (PV.rI p2)) (n6).toNat)))
 bif (PV.isRp p1) then
 bif (true&&decide ((0:Int)≤n6)&&decide (n6 < 5)) then
 bif (true&&(hokV h7 139 (PV.rI p1))) then
 let h9:List HE:=(List.set h7 (PV.rI p1) (HE.var 139 (PV.agg (List.set (PV.flds (hvarOf h7 (PV.rI p1))) (n6).toNat (PV.int n8)))))
 next_w1_0 (IntKind.wrap .i64 (n6+(1:Int))) h9
 else none
 else none
 else none
 else none
 else none
 else none
 else none
 else none
 else none
 else ret0 h7

theorem f114_w1b0_mem (k:Nat)(retF:(List HE)→R)(NX_w1:St→R)(p1:PV)(p2:PV)(n6:Int)(h7:List HE):exec (f114_E k) f114_cw1 (purgeK (f114_E k) f114_cw1 (loopK NX_w1 (kont (f114_E k) f114_code [1,0] (endK (f114_E k) Try.f114 [1000000000000] f114_un retF)))) (f114_hw1_0 p1 p2 n6 h7)=f114_w1b0 (fun y0=>retF y0) (fun n6 h7=>NX_w1 (f114_hw1_0 p1 p2 n6 h7)) p1 p2 n6 h7:=by kernel_rfl

noncomputable def f114_w1b0N (k:Nat)(ret0:(List HE)→R)(next_w1_0:Int→(List HE)→R)(p1:PV)(p2:PV)(n6:Int)(h7:List HE):R :=
 f114_w1b0 ret0 next_w1_0 p1 p2 n6 h7
theorem f114_w1b0_eq (k:Nat)(retF:(List HE)→R)(NX_w1:St→R)(p1:PV)(p2:PV)(n6:Int)(h7:List HE):exec (f114_E k) f114_cw1 (purgeK (f114_E k) f114_cw1 (loopK NX_w1 (kont (f114_E k) f114_code [1,0] (endK (f114_E k) Try.f114 [1000000000000] f114_un retF)))) (f114_hw1_0 p1 p2 n6 h7)=f114_w1b0N k (fun y0=>retF y0) (fun n6 h7=>NX_w1 (f114_hw1_0 p1 p2 n6 h7)) p1 p2 n6 h7 :=
 (f114_w1b0_mem k retF NX_w1 p1 p2 n6 h7)

noncomputable def f114_w1B (k:Nat)(ret0:(List HE)→R)(p1:PV)(p2:PV)(nx:Int × (List HE)→R):Int × (List HE)→R:=(fun s=>f114_w1b0N k ret0 (fun n6 h7=>nx (n6,h7)) p1 p2 s.1 s.2)
noncomputable def f114_w1N (k:Nat)(ret0:(List HE)→R)(p1:PV)(p2:PV)(n6:Int)(h7:List HE):R:=loopR (f114_w1B k ret0 p1 p2) k (n6,h7)
theorem f114_w1_eq (k:Nat)(retF:(List HE)→R)(p1:PV)(p2:PV)(n6:Int)(h7:List HE):f114_w1A k retF p1 p2 n6 h7=f114_w1N k (fun y0=>retF y0) p1 p2 n6 h7 :=
 Eq.mp (by kernel_rfl) (loop_sim (E:=(f114_E k)) (c:=f114_cw1) (K:=(kont (f114_E k) f114_code [1,0] (endK (f114_E k) Try.f114 [1000000000000] f114_un retF))) (S:=Int × (List HE)) (fun s=>f114_hw1_0 p1 p2 s.1 s.2) (f114_w1B k (fun y0=>retF y0) p1 p2) (fun NX s=>by
  exact Eq.mp (by kernel_rfl) (f114_w1b0_eq k retF NX p1 p2 s.1 s.2)) k (n6,h7))

noncomputable def f114_e (ret0:(List HE)→R)(w1:Int→(List HE)→R)(p1:PV)(p2:PV)(h3:List HE):R :=
 w1 0 h3

theorem f114_e_mem (k:Nat)(retF:(List HE)→R)(p1:PV)(p2:PV)(h3:List HE):exec (f114_E k) f114_code (endK (f114_E k) Try.f114 [1000000000000] f114_un retF) ⟨[.hval 114 p1,.hval 114 p2,.undef,.undef,.undef,.undef,.undef,.undef,.undef,.undef,.undef,.undef,.undef,.undef,.undef,.undef,.undef,.undef,.undef,.undef,.undef,.undef],[(1000000000000,.hp h3)]⟩=f114_e (fun y0=>retF y0) (fun n6 h7=>f114_w1A k retF p1 p2 n6 h7) p1 p2 h3:=by kernel_rfl

noncomputable def f114_N (k:Nat)(ret0:(List HE)→R)(p1:PV)(p2:PV)(h3:List HE):R :=
 f114_e ret0 (fun n6 h7=>f114_w1N k ret0 p1 p2 n6 h7) p1 p2 h3
theorem f114_eq (k:Nat)(retF:(List HE)→R)(p1:PV)(p2:PV)(h3:List HE):exec (f114_E k) f114_code (endK (f114_E k) Try.f114 [1000000000000] f114_un retF) ⟨[.hval 114 p1,.hval 114 p2,.undef,.undef,.undef,.undef,.undef,.undef,.undef,.undef,.undef,.undef,.undef,.undef,.undef,.undef,.undef,.undef,.undef,.undef,.undef,.undef],[(1000000000000,.hp h3)]⟩=f114_N k (fun y0=>retF y0) p1 p2 h3 :=
 (f114_e_mem k retF p1 p2 h3).trans (by rw [show (fun n6 h7=>f114_w1A k retF p1 p2 n6 h7)=(fun n6 h7=>f114_w1N k (fun y0=>retF y0) p1 p2 n6 h7) from funext fun n6=>funext fun h7=>f114_w1_eq k retF p1 p2 n6 h7];rfl)

noncomputable def G114:Nat→PV→PV→(List HE)→((List HE)→R)→R
 | 0,_,_,_,_=>none
 | k+1,p1,p2,h3,ret0=>f114_N k  ret0 p1 p2 h3
theorem S114:∀ k,Snd Try.prog 114 f114_I f114_O (fun x ret=>G114 k x.1 x.2.1 x.2.2 (fun y0=>ret y0))
 | 0=>snd_none
 | k+1=>snd_step (E:=f114_E k ) rfl laidOut noNums orc0_ok (f:=114) (fn:=Try.f114) (code:=f114_code) Try.func114 (by kernel_rfl) (drawsOk_of laidOut orc0_ok mixed (by kernel_rfl)) f114_un f114_un_ok [1000000000000] (fun _=>rfl)
   (fun x ret=>f114_eq k  ret x.1 x.2.1 x.2.2)

/- (*catchpole/lang.Table).row -/
noncomputable def f96_I:PV × Int × Int × (List HE)→List SV × Obs:=fun x=>([.hval 76 x.1,.int .i64 x.2.1,.int .i64 x.2.2.1],[(1000000000000,.hp x.2.2.2)])
noncomputable def f96_D:List SV→Obs→Option (PV × Int × Int × (List HE))
 | [.hval 76 p1,.int .i64 n2,.int .i64 n3],[(1000000000000,.hp h4)]=>some (p1,n2,n3,h4)
 | _,_=>none
theorem f96_D_ok (args:List SV)(B:Obs)(x:PV × Int × Int × (List HE))(h:f96_D args B=some x):f96_I x=(args,B):=by
 unfold f96_D at h
 split at h
 ·injection h with h;subst h;rfl
 ·cases h
noncomputable def f96_O:PV × (List HE)→Out:=(fun y=>([.hval 114 y.1],[(1000000000000,.hp y.2)]))
noncomputable def f96_un:Out→Option (PV × (List HE))
 | ([.hval 114 y0],[(1000000000000,.hp y1)])=>some (y0,y1)
 | _=>none
theorem f96_un_ok (o:Out)(y:PV × (List HE))(h:f96_un o=some y):o=f96_O y:=by
 unfold f96_un at h
 split at h
 ·injection h with h;subst h;rfl
 ·cases h
noncomputable def f96_msk:Nat→Option (List Nat):=fun key=>bif key==51 then some [0,1,2,8,9,10,11] else bif key==81 then some [0,1,2,8,9,12] else none
noncomputable def f96_C (c31:PV→Int→(Bool→R)→R)(c96:PV→Int→Int→(List HE)→(PV→(List HE)→R)→R)(c97:PV→Int→(List HE)→(Bool→(List HE)→R)→R)(c113:PV→Int→(List HE)→((List HE)→R)→R)(c114:PV→PV→(List HE)→((List HE)→R)→R):Oracle:=orc 31 f31_D f31_O (fun x ret=>c31 x.1 x.2 (fun y0=>ret y0)) <| orc 96 f96_D f96_O (fun x ret=>c96 x.1 x.2.1 x.2.2.1 x.2.2.2 (fun y0 y1=>ret (y0,y1))) <| orc 97 f97_D f97_O (fun x ret=>c97 x.1 x.2.1 x.2.2 (fun y0 y1=>ret (y0,y1))) <| orc 113 f113_D f113_O (fun x ret=>c113 x.1 x.2.1 x.2.2 (fun y0=>ret y0)) <| orc 114 f114_D f114_O (fun x ret=>c114 x.1 x.2.1 x.2.2 (fun y0=>ret y0)) <| orc0
noncomputable def f96_E (k:Nat)(c31:PV→Int→(Bool→R)→R)(c96:PV→Int→Int→(List HE)→(PV→(List HE)→R)→R)(c97:PV→Int→(List HE)→(Bool→(List HE)→R)→R)(c113:PV→Int→(List HE)→((List HE)→R)→R)(c114:PV→PV→(List HE)→((List HE)→R)→R):Env:={ P:=Try.prog,nilOwn:=fun d=>false,fldOwn:=fun d i=>false,ownPar:=ownPars,ownRet:=false,hpD:=fun d=>d==32 || d==48,hpF:=hpFs,hpNew:=false,mask:=f96_msk,fuel:=k,C:=f96_C c31 c96 c97 c113 c114 }
noncomputable def f96_code:Code:=Try.f96.body.getD .skip
noncomputable def f96_cw1:Code:=subC f96_code [1,1,1,1,1,0,1,0,1,1,1,1,1,0,1,1,0,0]
noncomputable def f96_hw1_0 (p1:PV)(n2:Int)(n3:Int)(h6:List HE)(h8:List HE)(p19:PV)(n28:Int)(h29:List HE):St:=⟨[.hval 76 p1,.int .i64 n2,.int .i64 n3,.dead,.dead,.dead,.dead,.dead,.hptr 139 (List.length h6) [],.hptr 118 (PV.rI (PV.fld (hvarOf h8 (PV.rI p1)) 0)) [.el n2],.hval 114 p19,.int .i64 n28,.dead,.dead,.dead,.dead,.dead,.dead,.dead,.dead,.dead,.dead,.dead,.dead,.dead,.dead,.dead,.dead,.dead,.dead,.dead,.dead,.dead,.dead,.dead,.dead,.dead,.dead,.dead,.dead,.dead,.dead,.dead,.dead,.dead,.dead,.dead,.dead,.dead,.dead,.dead,.dead,.dead,.dead,.dead,.dead,.dead,.dead,.dead,.dead,.dead,.dead,.dead,.dead,.dead,.dead,.dead,.dead,.dead,.dead,.dead,.dead,.dead,.dead,.dead,.dead,.dead,.dead,.dead,.dead,.dead,.dead,.dead,.dead,.dead,.dead,.dead,.dead,.dead,.dead,.dead,.dead,.dead,.dead,.dead,.dead,.dead,.dead,.dead,.dead,.dead,.dead,.dead,.dead,.dead,.dead,.dead,.dead,.dead,.dead,.dead,.dead,.dead,.dead,.dead,.dead,.dead,.dead,.dead,.dead,.dead,.dead,.dead,.dead,.dead,.dead,.dead,.dead,.dead,.dead,.dead,.dead,.dead,.dead,.dead,.dead,.dead,.dead,.dead,.dead,.dead,.dead,.dead,.dead,.dead,.dead,.dead,.dead,.dead,.dead,.dead,.dead,.dead,.dead,.dead,.dead,.dead,.dead,.dead,.dead,.dead,.dead,.dead,.dead,.dead,.dead,.dead,.dead,.dead,.dead,.dead,.dead,.dead,.dead,.dead,.dead,.dead,.dead,.dead,.dead,.dead,.dead,.dead,.dead,.dead,.dead,.dead,.dead,.dead,.dead,.dead,.dead,.dead,.dead,.dead,.dead,.dead,.dead,.dead,.dead,.dead,.dead,.dead,.dead,.dead,.dead],[(1000000000000,.hp h29)]⟩
noncomputable def f96_w1A (k:Nat)(c31:PV→Int→(Bool→R)→R)(c96:PV→Int→Int→(List HE)→(PV→(List HE)→R)→R)(c97:PV→Int→(List HE)→(Bool→(List HE)→R)→R)(c113:PV→Int→(List HE)→((List HE)→R)→R)(c114:PV→PV→(List HE)→((List HE)→R)→R)(retF:PV × (List HE)→R)(p1:PV)(n2:Int)(n3:Int)(h6:List HE)(h8:List HE)(p19:PV)(n28:Int)(h29:List HE):R:=loopM (f96_E k c31 c96 c97 c113 c114) f96_cw1 (kont (f96_E k c31 c96 c97 c113 c114) f96_code [1,1,1,1,1,0,1,0,1,1,1,1,1,0,1,1,0] (endK (f96_E k c31 c96 c97 c113 c114) Try.f96 [1000000000000] f96_un retF)) k (f96_hw1_0 p1 n2 n3 h6 h8 p19 n28 h29)
noncomputable def f96_w1b0 (c31:PV→Int→(Bool→R)→R)(c96:PV→Int→Int→(List HE)→(PV→(List HE)→R)→R)(c97:PV→Int→(List HE)→(Bool→(List HE)→R)→R)(c113:PV→Int→(List HE)→((List HE)→R)→R)(c114:PV→PV→(List HE)→((List HE)→R)→R)(ret0:PV→(List HE)→R)(next_w1_0:Int→(List HE)→R)(p1:PV)(n2:Int)(n3:Int)(h6:List HE)(h8:List HE)(p19:PV)(n28:Int)(h29:List HE):R :=
 bif (PV.isRp p1) then
 bif (true&&true&&(hokV h29 86 (PV.rI p1))) then
 bif (decide (n28≤(List.length (PV.els (PV.fld (hvarOf h29 (PV.rI p1)) 1)):Int))) then
 c97 p19 n28 h29 fun b30 h31 =>
 bif b30 then
 bif (true&&true&&(hokR h31 118 (PV.rI (PV.fld (hvarOf h8 (PV.rI p1)) 0)) n2)) then
 bif (true&&decide ((0:Int)≤(1:Int))&&decide ((1:Int) < ((PV.rN (PV.fld (List.getD (hrowOf h31 (PV.rI (PV.fld (hvarOf h8 (PV.rI p1)) 0))) (n2).toNat PV.nil) 1)):Int))) then
 bif (true&&true&&(hokR h31 3 (PV.rI (PV.fld (List.getD (hrowOf h31 (PV.rI (PV.fld (hvarOf h8 (PV.rI p1)) 0))) (n2).toNat PV.nil) 1)) (1:Int))) then
 let n32:Int:=(PV.num (List.getD (hrowOf h31 (PV.rI (PV.fld (List.getD (hrowOf h31 (PV.rI (PV.fld (hvarOf h8 (PV.rI p1)) 0))) (n2).toNat PV.nil) 1))) ((1:Int)).toNat PV.nil))
 c96 p1 n32 n28 h31 fun p33 h34 =>
 c114 (PV.rp (List.length h6)) p33 h34 fun h35 =>
 next_w1_0 (IntKind.wrap .i64 (n28+(1:Int))) h35
 else none
 else none
 else none
 else next_w1_0 (IntKind.wrap .i64 (n28+(1:Int))) h31
 else bif (PV.isRp p1) then
 bif (true&&true&&(hokV h29 86 (PV.rI p1))) then
 bif (true&&decide ((0:Int)≤n2)&&decide (n2 < ((PV.rN (PV.fld (hvarOf h29 (PV.rI p1)) 2)):Int))) then
 bif (true&&true&&(hokR h29 137 (PV.rI (PV.fld (hvarOf h29 (PV.rI p1)) 2)) n2)) then
 bif (true&&decide ((0:Int)≤n3)&&decide (n3 < ((PV.rN (List.getD (hrowOf h29 (PV.rI (PV.fld (hvarOf h29 (PV.rI p1)) 2))) (n2).toNat PV.nil)):Int))) then
 bif (true&&(hokR h29 114 (PV.rI (List.getD (hrowOf h29 (PV.rI (PV.fld (hvarOf h29 (PV.rI p1)) 2))) (n2).toNat PV.nil)) n3)) then
 let h36:List HE:=(List.set h29 (PV.rI (List.getD (hrowOf h29 (PV.rI (PV.fld (hvarOf h29 (PV.rI p1)) 2))) (n2).toNat PV.nil)) (HE.row 114 (List.set (hrowOf h29 (PV.rI (List.getD (hrowOf h29 (PV.rI (PV.fld (hvarOf h29 (PV.rI p1)) 2))) (n2).toNat PV.nil))) (n3).toNat (PV.rp (List.length h6)))))
 ret0 (PV.rp (List.length h6)) h36
 else none
 else none
 else none
 else none
 else none
 else none
 else none
 else none

theorem f96_w1b0_mem (k:Nat)(c31:PV→Int→(Bool→R)→R)(c96:PV→Int→Int→(List HE)→(PV→(List HE)→R)→R)(c97:PV→Int→(List HE)→(Bool→(List HE)→R)→R)(c113:PV→Int→(List HE)→((List HE)→R)→R)(c114:PV→PV→(List HE)→((List HE)→R)→R)(retF:PV × (List HE)→R)(NX_w1:St→R)(p1:PV)(n2:Int)(n3:Int)(h6:List HE)(h8:List HE)(p19:PV)(n28:Int)(h29:List HE):exec (f96_E k c31 c96 c97 c113 c114) f96_cw1 (purgeK (f96_E k c31 c96 c97 c113 c114) f96_cw1 (loopK NX_w1 (kont (f96_E k c31 c96 c97 c113 c114) f96_code [1,1,1,1,1,0,1,0,1,1,1,1,1,0,1,1,0] (endK (f96_E k c31 c96 c97 c113 c114) Try.f96 [1000000000000] f96_un retF)))) (f96_hw1_0 p1 n2 n3 h6 h8 p19 n28 h29)=f96_w1b0 c31 c96 c97 c113 c114 (fun y0 y1=>retF (y0,y1)) (fun n28 h29=>NX_w1 (f96_hw1_0 p1 n2 n3 h6 h8 p19 n28 h29)) p1 n2 n3 h6 h8 p19 n28 h29:=by kernel_rfl

noncomputable def f96_w1b0N (k:Nat)(c31:PV→Int→(Bool→R)→R)(c96:PV→Int→Int→(List HE)→(PV→(List HE)→R)→R)(c97:PV→Int→(List HE)→(Bool→(List HE)→R)→R)(c113:PV→Int→(List HE)→((List HE)→R)→R)(c114:PV→PV→(List HE)→((List HE)→R)→R)(ret0:PV→(List HE)→R)(next_w1_0:Int→(List HE)→R)(p1:PV)(n2:Int)(n3:Int)(h6:List HE)(h8:List HE)(p19:PV)(n28:Int)(h29:List HE):R :=
 f96_w1b0 c31 c96 c97 c113 c114 ret0 next_w1_0 p1 n2 n3 h6 h8 p19 n28 h29
theorem f96_w1b0_eq (k:Nat)(c31:PV→Int→(Bool→R)→R)(c96:PV→Int→Int→(List HE)→(PV→(List HE)→R)→R)(c97:PV→Int→(List HE)→(Bool→(List HE)→R)→R)(c113:PV→Int→(List HE)→((List HE)→R)→R)(c114:PV→PV→(List HE)→((List HE)→R)→R)(retF:PV × (List HE)→R)(NX_w1:St→R)(p1:PV)(n2:Int)(n3:Int)(h6:List HE)(h8:List HE)(p19:PV)(n28:Int)(h29:List HE):exec (f96_E k c31 c96 c97 c113 c114) f96_cw1 (purgeK (f96_E k c31 c96 c97 c113 c114) f96_cw1 (loopK NX_w1 (kont (f96_E k c31 c96 c97 c113 c114) f96_code [1,1,1,1,1,0,1,0,1,1,1,1,1,0,1,1,0] (endK (f96_E k c31 c96 c97 c113 c114) Try.f96 [1000000000000] f96_un retF)))) (f96_hw1_0 p1 n2 n3 h6 h8 p19 n28 h29)=f96_w1b0N k c31 c96 c97 c113 c114 (fun y0 y1=>retF (y0,y1)) (fun n28 h29=>NX_w1 (f96_hw1_0 p1 n2 n3 h6 h8 p19 n28 h29)) p1 n2 n3 h6 h8 p19 n28 h29 :=
 (f96_w1b0_mem k c31 c96 c97 c113 c114 retF NX_w1 p1 n2 n3 h6 h8 p19 n28 h29)

noncomputable def f96_w1B (k:Nat)(c31:PV→Int→(Bool→R)→R)(c96:PV→Int→Int→(List HE)→(PV→(List HE)→R)→R)(c97:PV→Int→(List HE)→(Bool→(List HE)→R)→R)(c113:PV→Int→(List HE)→((List HE)→R)→R)(c114:PV→PV→(List HE)→((List HE)→R)→R)(ret0:PV→(List HE)→R)(p1:PV)(n2:Int)(n3:Int)(h6:List HE)(h8:List HE)(p19:PV)(nx:Int × (List HE)→R):Int × (List HE)→R:=(fun s=>f96_w1b0N k c31 c96 c97 c113 c114 ret0 (fun n28 h29=>nx (n28,h29)) p1 n2 n3 h6 h8 p19 s.1 s.2)
noncomputable def f96_w1N (k:Nat)(c31:PV→Int→(Bool→R)→R)(c96:PV→Int→Int→(List HE)→(PV→(List HE)→R)→R)(c97:PV→Int→(List HE)→(Bool→(List HE)→R)→R)(c113:PV→Int→(List HE)→((List HE)→R)→R)(c114:PV→PV→(List HE)→((List HE)→R)→R)(ret0:PV→(List HE)→R)(p1:PV)(n2:Int)(n3:Int)(h6:List HE)(h8:List HE)(p19:PV)(n28:Int)(h29:List HE):R:=loopR (f96_w1B k c31 c96 c97 c113 c114 ret0 p1 n2 n3 h6 h8 p19) k (n28,h29)
theorem f96_w1_eq (k:Nat)(c31:PV→Int→(Bool→R)→R)(c96:PV→Int→Int→(List HE)→(PV→(List HE)→R)→R)(c97:PV→Int→(List HE)→(Bool→(List HE)→R)→R)(c113:PV→Int→(List HE)→((List HE)→R)→R)(c114:PV→PV→(List HE)→((List HE)→R)→R)(retF:PV × (List HE)→R)(p1:PV)(n2:Int)(n3:Int)(h6:List HE)(h8:List HE)(p19:PV)(n28:Int)(h29:List HE):f96_w1A k c31 c96 c97 c113 c114 retF p1 n2 n3 h6 h8 p19 n28 h29=f96_w1N k c31 c96 c97 c113 c114 (fun y0 y1=>retF (y0,y1)) p1 n2 n3 h6 h8 p19 n28 h29 :=
 Eq.mp (by kernel_rfl) (loop_sim (E:=(f96_E k c31 c96 c97 c113 c114)) (c:=f96_cw1) (K:=(kont (f96_E k c31 c96 c97 c113 c114) f96_code [1,1,1,1,1,0,1,0,1,1,1,1,1,0,1,1,0] (endK (f96_E k c31 c96 c97 c113 c114) Try.f96 [1000000000000] f96_un retF))) (S:=Int × (List HE)) (fun s=>f96_hw1_0 p1 n2 n3 h6 h8 p19 s.1 s.2) (f96_w1B k c31 c96 c97 c113 c114 (fun y0 y1=>retF (y0,y1)) p1 n2 n3 h6 h8 p19) (fun NX s=>by
  exact Eq.mp (by kernel_rfl) (f96_w1b0_eq k c31 c96 c97 c113 c114 retF NX p1 n2 n3 h6 h8 p19 s.1 s.2)) k (n28,h29))

noncomputable def f96_cw2:Code:=subC f96_code [1,1,1,1,1,0,1,0,1,1,1,1,1,1,1,1,1,0,1,1,0,0]
noncomputable def f96_hw2_0 (p1:PV)(n2:Int)(n3:Int)(h6:List HE)(h8:List HE)(n54:Int)(h55:List HE):St:=⟨[.hval 76 p1,.int .i64 n2,.int .i64 n3,.dead,.dead,.dead,.dead,.dead,.hptr 139 (List.length h6) [],.hptr 118 (PV.rI (PV.fld (hvarOf h8 (PV.rI p1)) 0)) [.el n2],.dead,.dead,.int .i64 n54,.dead,.dead,.dead,.dead,.dead,.dead,.dead,.dead,.dead,.dead,.dead,.dead,.dead,.dead,.dead,.dead,.dead,.dead,.dead,.dead,.dead,.dead,.dead,.dead,.dead,.dead,.dead,.dead,.dead,.dead,.dead,.dead,.dead,.dead,.dead,.dead,.dead,.dead,.dead,.dead,.dead,.dead,.dead,.dead,.dead,.dead,.dead,.dead,.dead,.dead,.dead,.dead,.dead,.dead,.dead,.dead,.dead,.dead,.dead,.dead,.dead,.dead,.dead,.dead,.dead,.dead,.dead,.dead,.dead,.dead,.dead,.dead,.dead,.dead,.dead,.dead,.dead,.dead,.dead,.dead,.dead,.dead,.dead,.dead,.dead,.dead,.dead,.dead,.dead,.dead,.dead,.dead,.dead,.dead,.dead,.dead,.dead,.dead,.dead,.dead,.dead,.dead,.dead,.dead,.dead,.dead,.dead,.dead,.dead,.dead,.dead,.dead,.dead,.dead,.dead,.dead,.dead,.dead,.dead,.dead,.dead,.dead,.dead,.dead,.dead,.dead,.dead,.dead,.dead,.dead,.dead,.dead,.dead,.dead,.dead,.dead,.dead,.dead,.dead,.dead,.dead,.dead,.dead,.dead,.dead,.dead,.dead,.dead,.dead,.dead,.dead,.dead,.dead,.dead,.dead,.dead,.dead,.dead,.dead,.dead,.dead,.dead,.dead,.dead,.dead,.dead,.dead,.dead,.dead,.dead,.dead,.dead,.dead,.dead,.dead,.dead,.dead,.dead,.dead,.dead,.dead,.dead,.dead,.dead,.dead,.dead,.dead,.dead,.dead,.dead,.dead,.dead,.dead],[(1000000000000,.hp h55)]⟩
noncomputable def f96_w2A (k:Nat)(c31:PV→Int→(Bool→R)→R)(c96:PV→Int→Int→(List HE)→(PV→(List HE)→R)→R)(c97:PV→Int→(List HE)→(Bool→(List HE)→R)→R)(c113:PV→Int→(List HE)→((List HE)→R)→R)(c114:PV→PV→(List HE)→((List HE)→R)→R)(retF:PV × (List HE)→R)(p1:PV)(n2:Int)(n3:Int)(h6:List HE)(h8:List HE)(n54:Int)(h55:List HE):R:=loopM (f96_E k c31 c96 c97 c113 c114) f96_cw2 (kont (f96_E k c31 c96 c97 c113 c114) f96_code [1,1,1,1,1,0,1,0,1,1,1,1,1,1,1,1,1,0,1,1,0] (endK (f96_E k c31 c96 c97 c113 c114) Try.f96 [1000000000000] f96_un retF)) k (f96_hw2_0 p1 n2 n3 h6 h8 n54 h55)
noncomputable def f96_w2b0 (c31:PV→Int→(Bool→R)→R)(c96:PV→Int→Int→(List HE)→(PV→(List HE)→R)→R)(c97:PV→Int→(List HE)→(Bool→(List HE)→R)→R)(c113:PV→Int→(List HE)→((List HE)→R)→R)(c114:PV→PV→(List HE)→((List HE)→R)→R)(ret0:PV→(List HE)→R)(next_w2_0:Int→(List HE)→R)(p1:PV)(n2:Int)(n3:Int)(h6:List HE)(h8:List HE)(n54:Int)(h55:List HE):R :=
 bif (PV.isRp p1) then
 bif (true&&true&&(hokV h55 86 (PV.rI p1))) then
 bif (decide (n54≤(List.length (PV.els (PV.fld (hvarOf h55 (PV.rI p1)) 1)):Int))) then
 c97 (PV.rp (List.length h6)) n54 h55 fun b56 h57 =>
 bif b56 then
 bif (true&&true&&(hokR h57 118 (PV.rI (PV.fld (hvarOf h8 (PV.rI p1)) 0)) n2)) then
 bif (true&&decide ((0:Int)≤(0:Int))&&decide ((0:Int) < ((PV.rN (PV.fld (List.getD (hrowOf h57 (PV.rI (PV.fld (hvarOf h8 (PV.rI p1)) 0))) (n2).toNat PV.nil) 1)):Int))) then
 bif (true&&true&&(hokR h57 3 (PV.rI (PV.fld (List.getD (hrowOf h57 (PV.rI (PV.fld (hvarOf h8 (PV.rI p1)) 0))) (n2).toNat PV.nil) 1)) (0:Int))) then
 let n58:Int:=(PV.num (List.getD (hrowOf h57 (PV.rI (PV.fld (List.getD (hrowOf h57 (PV.rI (PV.fld (hvarOf h8 (PV.rI p1)) 0))) (n2).toNat PV.nil) 1))) ((0:Int)).toNat PV.nil))
 c96 p1 n58 n54 h57 fun p59 h60 =>
 c114 (PV.rp (List.length h6)) p59 h60 fun h61 =>
 next_w2_0 (IntKind.wrap .i64 (n54+(1:Int))) h61
 else none
 else none
 else none
 else next_w2_0 (IntKind.wrap .i64 (n54+(1:Int))) h57
 else bif (PV.isRp p1) then
 bif (true&&true&&(hokV h55 86 (PV.rI p1))) then
 bif (true&&decide ((0:Int)≤n2)&&decide (n2 < ((PV.rN (PV.fld (hvarOf h55 (PV.rI p1)) 2)):Int))) then
 bif (true&&true&&(hokR h55 137 (PV.rI (PV.fld (hvarOf h55 (PV.rI p1)) 2)) n2)) then
 bif (true&&decide ((0:Int)≤n3)&&decide (n3 < ((PV.rN (List.getD (hrowOf h55 (PV.rI (PV.fld (hvarOf h55 (PV.rI p1)) 2))) (n2).toNat PV.nil)):Int))) then
 bif (true&&(hokR h55 114 (PV.rI (List.getD (hrowOf h55 (PV.rI (PV.fld (hvarOf h55 (PV.rI p1)) 2))) (n2).toNat PV.nil)) n3)) then
 let h62:List HE:=(List.set h55 (PV.rI (List.getD (hrowOf h55 (PV.rI (PV.fld (hvarOf h55 (PV.rI p1)) 2))) (n2).toNat PV.nil)) (HE.row 114 (List.set (hrowOf h55 (PV.rI (List.getD (hrowOf h55 (PV.rI (PV.fld (hvarOf h55 (PV.rI p1)) 2))) (n2).toNat PV.nil))) (n3).toNat (PV.rp (List.length h6)))))
 ret0 (PV.rp (List.length h6)) h62
 else none
 else none
 else none
 else none
 else none
 else none
 else none
 else none

theorem f96_w2b0_mem (k:Nat)(c31:PV→Int→(Bool→R)→R)(c96:PV→Int→Int→(List HE)→(PV→(List HE)→R)→R)(c97:PV→Int→(List HE)→(Bool→(List HE)→R)→R)(c113:PV→Int→(List HE)→((List HE)→R)→R)(c114:PV→PV→(List HE)→((List HE)→R)→R)(retF:PV × (List HE)→R)(NX_w2:St→R)(p1:PV)(n2:Int)(n3:Int)(h6:List HE)(h8:List HE)(n54:Int)(h55:List HE):exec (f96_E k c31 c96 c97 c113 c114) f96_cw2 (purgeK (f96_E k c31 c96 c97 c113 c114) f96_cw2 (loopK NX_w2 (kont (f96_E k c31 c96 c97 c113 c114) f96_code [1,1,1,1,1,0,1,0,1,1,1,1,1,1,1,1,1,0,1,1,0] (endK (f96_E k c31 c96 c97 c113 c114) Try.f96 [1000000000000] f96_un retF)))) (f96_hw2_0 p1 n2 n3 h6 h8 n54 h55)=f96_w2b0 c31 c96 c97 c113 c114 (fun y0 y1=>retF (y0,y1)) (fun n54 h55=>NX_w2 (f96_hw2_0 p1 n2 n3 h6 h8 n54 h55)) p1 n2 n3 h6 h8 n54 h55:=by kernel_rfl

noncomputable def f96_w2b0N (k:Nat)(c31:PV→Int→(Bool→R)→R)(c96:PV→Int→Int→(List HE)→(PV→(List HE)→R)→R)(c97:PV→Int→(List HE)→(Bool→(List HE)→R)→R)(c113:PV→Int→(List HE)→((List HE)→R)→R)(c114:PV→PV→(List HE)→((List HE)→R)→R)(ret0:PV→(List HE)→R)(next_w2_0:Int→(List HE)→R)(p1:PV)(n2:Int)(n3:Int)(h6:List HE)(h8:List HE)(n54:Int)(h55:List HE):R :=
 f96_w2b0 c31 c96 c97 c113 c114 ret0 next_w2_0 p1 n2 n3 h6 h8 n54 h55
theorem f96_w2b0_eq (k:Nat)(c31:PV→Int→(Bool→R)→R)(c96:PV→Int→Int→(List HE)→(PV→(List HE)→R)→R)(c97:PV→Int→(List HE)→(Bool→(List HE)→R)→R)(c113:PV→Int→(List HE)→((List HE)→R)→R)(c114:PV→PV→(List HE)→((List HE)→R)→R)(retF:PV × (List HE)→R)(NX_w2:St→R)(p1:PV)(n2:Int)(n3:Int)(h6:List HE)(h8:List HE)(n54:Int)(h55:List HE):exec (f96_E k c31 c96 c97 c113 c114) f96_cw2 (purgeK (f96_E k c31 c96 c97 c113 c114) f96_cw2 (loopK NX_w2 (kont (f96_E k c31 c96 c97 c113 c114) f96_code [1,1,1,1,1,0,1,0,1,1,1,1,1,1,1,1,1,0,1,1,0] (endK (f96_E k c31 c96 c97 c113 c114) Try.f96 [1000000000000] f96_un retF)))) (f96_hw2_0 p1 n2 n3 h6 h8 n54 h55)=f96_w2b0N k c31 c96 c97 c113 c114 (fun y0 y1=>retF (y0,y1)) (fun n54 h55=>NX_w2 (f96_hw2_0 p1 n2 n3 h6 h8 n54 h55)) p1 n2 n3 h6 h8 n54 h55 :=
 (f96_w2b0_mem k c31 c96 c97 c113 c114 retF NX_w2 p1 n2 n3 h6 h8 n54 h55)

noncomputable def f96_w2B (k:Nat)(c31:PV→Int→(Bool→R)→R)(c96:PV→Int→Int→(List HE)→(PV→(List HE)→R)→R)(c97:PV→Int→(List HE)→(Bool→(List HE)→R)→R)(c113:PV→Int→(List HE)→((List HE)→R)→R)(c114:PV→PV→(List HE)→((List HE)→R)→R)(ret0:PV→(List HE)→R)(p1:PV)(n2:Int)(n3:Int)(h6:List HE)(h8:List HE)(nx:Int × (List HE)→R):Int × (List HE)→R:=(fun s=>f96_w2b0N k c31 c96 c97 c113 c114 ret0 (fun n54 h55=>nx (n54,h55)) p1 n2 n3 h6 h8 s.1 s.2)
noncomputable def f96_w2N (k:Nat)(c31:PV→Int→(Bool→R)→R)(c96:PV→Int→Int→(List HE)→(PV→(List HE)→R)→R)(c97:PV→Int→(List HE)→(Bool→(List HE)→R)→R)(c113:PV→Int→(List HE)→((List HE)→R)→R)(c114:PV→PV→(List HE)→((List HE)→R)→R)(ret0:PV→(List HE)→R)(p1:PV)(n2:Int)(n3:Int)(h6:List HE)(h8:List HE)(n54:Int)(h55:List HE):R:=loopR (f96_w2B k c31 c96 c97 c113 c114 ret0 p1 n2 n3 h6 h8) k (n54,h55)
theorem f96_w2_eq (k:Nat)(c31:PV→Int→(Bool→R)→R)(c96:PV→Int→Int→(List HE)→(PV→(List HE)→R)→R)(c97:PV→Int→(List HE)→(Bool→(List HE)→R)→R)(c113:PV→Int→(List HE)→((List HE)→R)→R)(c114:PV→PV→(List HE)→((List HE)→R)→R)(retF:PV × (List HE)→R)(p1:PV)(n2:Int)(n3:Int)(h6:List HE)(h8:List HE)(n54:Int)(h55:List HE):f96_w2A k c31 c96 c97 c113 c114 retF p1 n2 n3 h6 h8 n54 h55=f96_w2N k c31 c96 c97 c113 c114 (fun y0 y1=>retF (y0,y1)) p1 n2 n3 h6 h8 n54 h55 :=
 Eq.mp (by kernel_rfl) (loop_sim (E:=(f96_E k c31 c96 c97 c113 c114)) (c:=f96_cw2) (K:=(kont (f96_E k c31 c96 c97 c113 c114) f96_code [1,1,1,1,1,0,1,0,1,1,1,1,1,1,1,1,1,0,1,1,0] (endK (f96_E k c31 c96 c97 c113 c114) Try.f96 [1000000000000] f96_un retF))) (S:=Int × (List HE)) (fun s=>f96_hw2_0 p1 n2 n3 h6 h8 s.1 s.2) (f96_w2B k c31 c96 c97 c113 c114 (fun y0 y1=>retF (y0,y1)) p1 n2 n3 h6 h8) (fun NX s=>by
  exact Eq.mp (by kernel_rfl) (f96_w2b0_eq k c31 c96 c97 c113 c114 retF NX p1 n2 n3 h6 h8 s.1 s.2)) k (n54,h55))

noncomputable def f96_e (c31:PV→Int→(Bool→R)→R)(c96:PV→Int→Int→(List HE)→(PV→(List HE)→R)→R)(c97:PV→Int→(List HE)→(Bool→(List HE)→R)→R)(c113:PV→Int→(List HE)→((List HE)→R)→R)(c114:PV→PV→(List HE)→((List HE)→R)→R)(ret0:PV→(List HE)→R)(w1:(List HE)→(List HE)→PV→Int→(List HE)→R)(w2:(List HE)→(List HE)→Int→(List HE)→R)(p1:PV)(n2:Int)(n3:Int)(h4:List HE):R :=
 bif (PV.isRp p1) then
 bif (true&&true&&(hokV h4 86 (PV.rI p1))) then
 bif (true&&decide ((0:Int)≤n2)&&decide (n2 < ((PV.rN (PV.fld (hvarOf h4 (PV.rI p1)) 2)):Int))) then
 bif (true&&true&&(hokR h4 137 (PV.rI (PV.fld (hvarOf h4 (PV.rI p1)) 2)) n2)) then
 bif (!(PV.isRs (List.getD (hrowOf h4 (PV.rI (PV.fld (hvarOf h4 (PV.rI p1)) 2))) (n2).toNat PV.nil))) then
 bif (PV.isRp p1) then
 bif (true&&true&&(hokV h4 86 (PV.rI p1))) then
 bif (PV.isRp p1) then
 bif (true&&true&&(hokV h4 86 (PV.rI p1))) then
 bif (true&&(true&&decide ((0:Int)≤(IntKind.wrap .i64 ((List.length (PV.els (PV.fld (hvarOf h4 (PV.rI p1)) 1)):Int)+(1:Int))))&&decide ((IntKind.wrap .i64 ((List.length (PV.els (PV.fld (hvarOf h4 (PV.rI p1)) 1)):Int)+(1:Int)))=(IntKind.wrap .i64 ((List.length (PV.els (PV.fld (hvarOf h4 (PV.rI p1)) 1)):Int)+(1:Int))))&&roomy ((IntKind.wrap .i64 ((List.length (PV.els (PV.fld (hvarOf h4 (PV.rI p1)) 1)):Int)+(1:Int)))).toNat 8)) then
 bif (true&&decide ((0:Int)≤n2)&&decide (n2 < ((PV.rN (PV.fld (hvarOf h4 (PV.rI p1)) 2)):Int))) then
 let h5:List HE:=(h4++[HE.row 114 (List.replicate ((IntKind.wrap .i64 ((List.length (PV.els (PV.fld (hvarOf h4 (PV.rI p1)) 1)):Int)+(1:Int)))).toNat PV.nil)])
 bif (true&&(hokR h5 137 (PV.rI (PV.fld (hvarOf h4 (PV.rI p1)) 2)) n2)) then
 let h6:List HE:=(List.set h5 (PV.rI (PV.fld (hvarOf h4 (PV.rI p1)) 2)) (HE.row 137 (List.set (hrowOf h5 (PV.rI (PV.fld (hvarOf h4 (PV.rI p1)) 2))) (n2).toNat (PV.rs (List.length h4) ((IntKind.wrap .i64 ((List.length (PV.els (PV.fld (hvarOf h4 (PV.rI p1)) 1)):Int)+(1:Int)))).toNat))))
 bif (PV.isRp p1) then
 bif (true&&true&&(hokV h6 86 (PV.rI p1))) then
 bif (true&&decide ((0:Int)≤n2)&&decide (n2 < ((PV.rN (PV.fld (hvarOf h6 (PV.rI p1)) 2)):Int))) then
 bif (true&&true&&(hokR h6 137 (PV.rI (PV.fld (hvarOf h6 (PV.rI p1)) 2)) n2)) then
 bif (true&&decide ((0:Int)≤n3)&&decide (n3 < ((PV.rN (List.getD (hrowOf h6 (PV.rI (PV.fld (hvarOf h6 (PV.rI p1)) 2))) (n2).toNat PV.nil)):Int))) then
 bif (true&&true&&(hokR h6 114 (PV.rI (List.getD (hrowOf h6 (PV.rI (PV.fld (hvarOf h6 (PV.rI p1)) 2))) (n2).toNat PV.nil)) n3)) then
 let p7:PV:=(List.getD (hrowOf h6 (PV.rI (List.getD (hrowOf h6 (PV.rI (PV.fld (hvarOf h6 (PV.rI p1)) 2))) (n2).toNat PV.nil))) (n3).toNat PV.nil)
 bif (!(PV.isNil p7)) then
 ret0 p7 h6
 else let h8:List HE:=(h6++[HE.var 139 (PV.agg [(PV.int 0),(PV.int 0),(PV.int 0),(PV.int 0),(PV.int 0)])])
 bif (PV.isRp p1) then
 bif (true&&true&&(hokV h8 86 (PV.rI p1))) then
 bif (true&&decide ((0:Int)≤n2)&&decide (n2 < ((PV.rN (PV.fld (hvarOf h8 (PV.rI p1)) 0)):Int))) then
 bif (true&&true&&(hokR h8 118 (PV.rI (PV.fld (hvarOf h8 (PV.rI p1)) 0)) n2)) then
 let n9:Int:=(PV.num (PV.fld (PV.fld (List.getD (hrowOf h8 (PV.rI (PV.fld (hvarOf h8 (PV.rI p1)) 0))) (n2).toNat PV.nil) 0) 0))
 bif (decide (n9=(1:Int))) then
 c113 (PV.rp (List.length h6)) n3 h8 fun h10 =>
 bif (PV.isRp p1) then
 bif (true&&true&&(hokV h10 86 (PV.rI p1))) then
 bif (true&&decide ((0:Int)≤n2)&&decide (n2 < ((PV.rN (PV.fld (hvarOf h10 (PV.rI p1)) 2)):Int))) then
 bif (true&&true&&(hokR h10 137 (PV.rI (PV.fld (hvarOf h10 (PV.rI p1)) 2)) n2)) then
 bif (true&&decide ((0:Int)≤n3)&&decide (n3 < ((PV.rN (List.getD (hrowOf h10 (PV.rI (PV.fld (hvarOf h10 (PV.rI p1)) 2))) (n2).toNat PV.nil)):Int))) then
 bif (true&&(hokR h10 114 (PV.rI (List.getD (hrowOf h10 (PV.rI (PV.fld (hvarOf h10 (PV.rI p1)) 2))) (n2).toNat PV.nil)) n3)) then
 let h11:List HE:=(List.set h10 (PV.rI (List.getD (hrowOf h10 (PV.rI (PV.fld (hvarOf h10 (PV.rI p1)) 2))) (n2).toNat PV.nil)) (HE.row 114 (List.set (hrowOf h10 (PV.rI (List.getD (hrowOf h10 (PV.rI (PV.fld (hvarOf h10 (PV.rI p1)) 2))) (n2).toNat PV.nil))) (n3).toNat (PV.rp (List.length h6)))))
 ret0 (PV.rp (List.length h6)) h11
 else none
 else none
 else none
 else none
 else none
 else none
 else bif (decide (n9=(2:Int))) then
 bif (PV.isRp p1) then
 bif (true&&true&&(hokV h8 86 (PV.rI p1))) then
 bif ((decide (n3 < (List.length (PV.els (PV.fld (hvarOf h8 (PV.rI p1)) 1)):Int)))==true) then
 bif (true&&true&&(hokR h8 118 (PV.rI (PV.fld (hvarOf h8 (PV.rI p1)) 0)) n2)) then
 let p12:PV:=(PV.fld (PV.fld (List.getD (hrowOf h8 (PV.rI (PV.fld (hvarOf h8 (PV.rI p1)) 0))) (n2).toNat PV.nil) 0) 1)
 bif (PV.isRp p1) then
 bif (true&&true&&(hokV h8 86 (PV.rI p1))) then
 bif (true&&decide ((0:Int)≤n3)&&decide (n3 < (List.length (PV.els (PV.fld (hvarOf h8 (PV.rI p1)) 1)):Int))) then
 c31 p12 (PV.num (List.getD (PV.els (PV.fld (hvarOf h8 (PV.rI p1)) 1)) (n3).toNat PV.nil)) fun b13 =>
 bif b13 then
 c113 (PV.rp (List.length h6)) (IntKind.wrap .i64 (n3+(1:Int))) h8 fun h14 =>
 bif (PV.isRp p1) then
 bif (true&&true&&(hokV h14 86 (PV.rI p1))) then
 bif (true&&decide ((0:Int)≤n2)&&decide (n2 < ((PV.rN (PV.fld (hvarOf h14 (PV.rI p1)) 2)):Int))) then
 bif (true&&true&&(hokR h14 137 (PV.rI (PV.fld (hvarOf h14 (PV.rI p1)) 2)) n2)) then
 bif (true&&decide ((0:Int)≤n3)&&decide (n3 < ((PV.rN (List.getD (hrowOf h14 (PV.rI (PV.fld (hvarOf h14 (PV.rI p1)) 2))) (n2).toNat PV.nil)):Int))) then
 bif (true&&(hokR h14 114 (PV.rI (List.getD (hrowOf h14 (PV.rI (PV.fld (hvarOf h14 (PV.rI p1)) 2))) (n2).toNat PV.nil)) n3)) then
 let h15:List HE:=(List.set h14 (PV.rI (List.getD (hrowOf h14 (PV.rI (PV.fld (hvarOf h14 (PV.rI p1)) 2))) (n2).toNat PV.nil)) (HE.row 114 (List.set (hrowOf h14 (PV.rI (List.getD (hrowOf h14 (PV.rI (PV.fld (hvarOf h14 (PV.rI p1)) 2))) (n2).toNat PV.nil))) (n3).toNat (PV.rp (List.length h6)))))
 ret0 (PV.rp (List.length h6)) h15
 else none
 else none
 else none
 else none
 else none
 else none
 else bif (PV.isRp p1) then
 bif (true&&true&&(hokV h8 86 (PV.rI p1))) then
 bif (true&&decide ((0:Int)≤n2)&&decide (n2 < ((PV.rN (PV.fld (hvarOf h8 (PV.rI p1)) 2)):Int))) then
 bif (true&&true&&(hokR h8 137 (PV.rI (PV.fld (hvarOf h8 (PV.rI p1)) 2)) n2)) then
 bif (true&&decide ((0:Int)≤n3)&&decide (n3 < ((PV.rN (List.getD (hrowOf h8 (PV.rI (PV.fld (hvarOf h8 (PV.rI p1)) 2))) (n2).toNat PV.nil)):Int))) then
 bif (true&&(hokR h8 114 (PV.rI (List.getD (hrowOf h8 (PV.rI (PV.fld (hvarOf h8 (PV.rI p1)) 2))) (n2).toNat PV.nil)) n3)) then
 let h16:List HE:=(List.set h8 (PV.rI (List.getD (hrowOf h8 (PV.rI (PV.fld (hvarOf h8 (PV.rI p1)) 2))) (n2).toNat PV.nil)) (HE.row 114 (List.set (hrowOf h8 (PV.rI (List.getD (hrowOf h8 (PV.rI (PV.fld (hvarOf h8 (PV.rI p1)) 2))) (n2).toNat PV.nil))) (n3).toNat (PV.rp (List.length h6)))))
 ret0 (PV.rp (List.length h6)) h16
 else none
 else none
 else none
 else none
 else none
 else none
 else none
 else none
 else none
 else none
 else bif (PV.isRp p1) then
 bif (true&&true&&(hokV h8 86 (PV.rI p1))) then
 bif (true&&decide ((0:Int)≤n2)&&decide (n2 < ((PV.rN (PV.fld (hvarOf h8 (PV.rI p1)) 2)):Int))) then
 bif (true&&true&&(hokR h8 137 (PV.rI (PV.fld (hvarOf h8 (PV.rI p1)) 2)) n2)) then
 bif (true&&decide ((0:Int)≤n3)&&decide (n3 < ((PV.rN (List.getD (hrowOf h8 (PV.rI (PV.fld (hvarOf h8 (PV.rI p1)) 2))) (n2).toNat PV.nil)):Int))) then
 bif (true&&(hokR h8 114 (PV.rI (List.getD (hrowOf h8 (PV.rI (PV.fld (hvarOf h8 (PV.rI p1)) 2))) (n2).toNat PV.nil)) n3)) then
 let h17:List HE:=(List.set h8 (PV.rI (List.getD (hrowOf h8 (PV.rI (PV.fld (hvarOf h8 (PV.rI p1)) 2))) (n2).toNat PV.nil)) (HE.row 114 (List.set (hrowOf h8 (PV.rI (List.getD (hrowOf h8 (PV.rI (PV.fld (hvarOf h8 (PV.rI p1)) 2))) (n2).toNat PV.nil))) (n3).toNat (PV.rp (List.length h6)))))
 ret0 (PV.rp (List.length h6)) h17
 else none
 else none
 else none
 else none
 else none
 else none
 else none
 else none
 else bif (decide (n9=(3:Int))) then
 bif (true&&true&&(hokR h8 118 (PV.rI (PV.fld (hvarOf h8 (PV.rI p1)) 0)) n2)) then
 bif (true&&decide ((0:Int)≤(0:Int))&&decide ((0:Int) < ((PV.rN (PV.fld (List.getD (hrowOf h8 (PV.rI (PV.fld (hvarOf h8 (PV.rI p1)) 0))) (n2).toNat PV.nil) 1)):Int))) then
 bif (true&&true&&(hokR h8 3 (PV.rI (PV.fld (List.getD (hrowOf h8 (PV.rI (PV.fld (hvarOf h8 (PV.rI p1)) 0))) (n2).toNat PV.nil) 1)) (0:Int))) then
 let n18:Int:=(PV.num (List.getD (hrowOf h8 (PV.rI (PV.fld (List.getD (hrowOf h8 (PV.rI (PV.fld (hvarOf h8 (PV.rI p1)) 0))) (n2).toNat PV.nil) 1))) ((0:Int)).toNat PV.nil))
 c96 p1 n18 n3 h8 fun p19 h20 =>
 w1 h6 h8 p19 n3 h20
 else none
 else none
 else none
 else bif (decide (n9=(4:Int))) then
 bif (true&&true&&(hokR h8 118 (PV.rI (PV.fld (hvarOf h8 (PV.rI p1)) 0)) n2)) then
 bif (true&&decide ((0:Int)≤(0:Int))&&decide ((0:Int) < ((PV.rN (PV.fld (List.getD (hrowOf h8 (PV.rI (PV.fld (hvarOf h8 (PV.rI p1)) 0))) (n2).toNat PV.nil) 1)):Int))) then
 bif (true&&true&&(hokR h8 3 (PV.rI (PV.fld (List.getD (hrowOf h8 (PV.rI (PV.fld (hvarOf h8 (PV.rI p1)) 0))) (n2).toNat PV.nil) 1)) (0:Int))) then
 let n37:Int:=(PV.num (List.getD (hrowOf h8 (PV.rI (PV.fld (List.getD (hrowOf h8 (PV.rI (PV.fld (hvarOf h8 (PV.rI p1)) 0))) (n2).toNat PV.nil) 1))) ((0:Int)).toNat PV.nil))
 c96 p1 n37 n3 h8 fun p38 h39 =>
 c114 (PV.rp (List.length h6)) p38 h39 fun h40 =>
 bif (true&&true&&(hokR h40 118 (PV.rI (PV.fld (hvarOf h8 (PV.rI p1)) 0)) n2)) then
 bif (true&&decide ((0:Int)≤(1:Int))&&decide ((1:Int) < ((PV.rN (PV.fld (List.getD (hrowOf h40 (PV.rI (PV.fld (hvarOf h8 (PV.rI p1)) 0))) (n2).toNat PV.nil) 1)):Int))) then
 bif (true&&true&&(hokR h40 3 (PV.rI (PV.fld (List.getD (hrowOf h40 (PV.rI (PV.fld (hvarOf h8 (PV.rI p1)) 0))) (n2).toNat PV.nil) 1)) (1:Int))) then
 let n41:Int:=(PV.num (List.getD (hrowOf h40 (PV.rI (PV.fld (List.getD (hrowOf h40 (PV.rI (PV.fld (hvarOf h8 (PV.rI p1)) 0))) (n2).toNat PV.nil) 1))) ((1:Int)).toNat PV.nil))
 c96 p1 n41 n3 h40 fun p42 h43 =>
 c114 (PV.rp (List.length h6)) p42 h43 fun h44 =>
 bif (PV.isRp p1) then
 bif (true&&true&&(hokV h44 86 (PV.rI p1))) then
 bif (true&&decide ((0:Int)≤n2)&&decide (n2 < ((PV.rN (PV.fld (hvarOf h44 (PV.rI p1)) 2)):Int))) then
 bif (true&&true&&(hokR h44 137 (PV.rI (PV.fld (hvarOf h44 (PV.rI p1)) 2)) n2)) then
 bif (true&&decide ((0:Int)≤n3)&&decide (n3 < ((PV.rN (List.getD (hrowOf h44 (PV.rI (PV.fld (hvarOf h44 (PV.rI p1)) 2))) (n2).toNat PV.nil)):Int))) then
 bif (true&&(hokR h44 114 (PV.rI (List.getD (hrowOf h44 (PV.rI (PV.fld (hvarOf h44 (PV.rI p1)) 2))) (n2).toNat PV.nil)) n3)) then
 let h45:List HE:=(List.set h44 (PV.rI (List.getD (hrowOf h44 (PV.rI (PV.fld (hvarOf h44 (PV.rI p1)) 2))) (n2).toNat PV.nil)) (HE.row 114 (List.set (hrowOf h44 (PV.rI (List.getD (hrowOf h44 (PV.rI (PV.fld (hvarOf h44 (PV.rI p1)) 2))) (n2).toNat PV.nil))) (n3).toNat (PV.rp (List.length h6)))))
 ret0 (PV.rp (List.length h6)) h45
 else none
 else none
 else none
 else none
 else none
 else none
 else none
 else none
 else none
 else none
 else none
 else none
 else bif (decide (n9=(5:Int))) then
 c113 (PV.rp (List.length h6)) n3 h8 fun h46 =>
 w2 h6 h8 n3 h46
 else bif (decide (n9=(6:Int))) then
 bif (true&&true&&(hokR h8 118 (PV.rI (PV.fld (hvarOf h8 (PV.rI p1)) 0)) n2)) then
 bif (true&&decide ((0:Int)≤(0:Int))&&decide ((0:Int) < ((PV.rN (PV.fld (List.getD (hrowOf h8 (PV.rI (PV.fld (hvarOf h8 (PV.rI p1)) 0))) (n2).toNat PV.nil) 1)):Int))) then
 bif (true&&true&&(hokR h8 3 (PV.rI (PV.fld (List.getD (hrowOf h8 (PV.rI (PV.fld (hvarOf h8 (PV.rI p1)) 0))) (n2).toNat PV.nil) 1)) (0:Int))) then
 let n63:Int:=(PV.num (List.getD (hrowOf h8 (PV.rI (PV.fld (List.getD (hrowOf h8 (PV.rI (PV.fld (hvarOf h8 (PV.rI p1)) 0))) (n2).toNat PV.nil) 1))) ((0:Int)).toNat PV.nil))
 c96 p1 n63 n3 h8 fun p64 h65 =>
 c114 (PV.rp (List.length h6)) p64 h65 fun h66 =>
 bif (PV.isRp p1) then
 bif (true&&true&&(hokV h66 86 (PV.rI p1))) then
 bif (true&&decide ((0:Int)≤n2)&&decide (n2 < ((PV.rN (PV.fld (hvarOf h66 (PV.rI p1)) 2)):Int))) then
 bif (true&&true&&(hokR h66 137 (PV.rI (PV.fld (hvarOf h66 (PV.rI p1)) 2)) n2)) then
 bif (true&&decide ((0:Int)≤n3)&&decide (n3 < ((PV.rN (List.getD (hrowOf h66 (PV.rI (PV.fld (hvarOf h66 (PV.rI p1)) 2))) (n2).toNat PV.nil)):Int))) then
 bif (true&&(hokR h66 114 (PV.rI (List.getD (hrowOf h66 (PV.rI (PV.fld (hvarOf h66 (PV.rI p1)) 2))) (n2).toNat PV.nil)) n3)) then
 let h67:List HE:=(List.set h66 (PV.rI (List.getD (hrowOf h66 (PV.rI (PV.fld (hvarOf h66 (PV.rI p1)) 2))) (n2).toNat PV.nil)) (HE.row 114 (List.set (hrowOf h66 (PV.rI (List.getD (hrowOf h66 (PV.rI (PV.fld (hvarOf h66 (PV.rI p1)) 2))) (n2).toNat PV.nil))) (n3).toNat (PV.rp (List.length h6)))))
 ret0 (PV.rp (List.length h6)) h67
 else none
 else none
 else none
 else none
 else none
 else none
 else none
 else none
 else none
 else bif (decide (n9=(7:Int))) then
 bif (true&&true&&(hokR h8 118 (PV.rI (PV.fld (hvarOf h8 (PV.rI p1)) 0)) n2)) then
 bif (true&&decide ((0:Int)≤(0:Int))&&decide ((0:Int) < ((PV.rN (PV.fld (List.getD (hrowOf h8 (PV.rI (PV.fld (hvarOf h8 (PV.rI p1)) 0))) (n2).toNat PV.nil) 1)):Int))) then
 bif (true&&true&&(hokR h8 3 (PV.rI (PV.fld (List.getD (hrowOf h8 (PV.rI (PV.fld (hvarOf h8 (PV.rI p1)) 0))) (n2).toNat PV.nil) 1)) (0:Int))) then
 let n68:Int:=(PV.num (List.getD (hrowOf h8 (PV.rI (PV.fld (List.getD (hrowOf h8 (PV.rI (PV.fld (hvarOf h8 (PV.rI p1)) 0))) (n2).toNat PV.nil) 1))) ((0:Int)).toNat PV.nil))
 c96 p1 n68 n3 h8 fun p69 h70 =>
 c114 (PV.rp (List.length h6)) p69 h70 fun h71 =>
 bif (PV.isRp p1) then
 bif (true&&true&&(hokV h71 86 (PV.rI p1))) then
 bif (true&&decide ((0:Int)≤n2)&&decide (n2 < ((PV.rN (PV.fld (hvarOf h71 (PV.rI p1)) 2)):Int))) then
 bif (true&&true&&(hokR h71 137 (PV.rI (PV.fld (hvarOf h71 (PV.rI p1)) 2)) n2)) then
 bif (true&&decide ((0:Int)≤n3)&&decide (n3 < ((PV.rN (List.getD (hrowOf h71 (PV.rI (PV.fld (hvarOf h71 (PV.rI p1)) 2))) (n2).toNat PV.nil)):Int))) then
 bif (true&&(hokR h71 114 (PV.rI (List.getD (hrowOf h71 (PV.rI (PV.fld (hvarOf h71 (PV.rI p1)) 2))) (n2).toNat PV.nil)) n3)) then
 let h72:List HE:=(List.set h71 (PV.rI (List.getD (hrowOf h71 (PV.rI (PV.fld (hvarOf h71 (PV.rI p1)) 2))) (n2).toNat PV.nil)) (HE.row 114 (List.set (hrowOf h71 (PV.rI (List.getD (hrowOf h71 (PV.rI (PV.fld (hvarOf h71 (PV.rI p1)) 2))) (n2).toNat PV.nil))) (n3).toNat (PV.rp (List.length h6)))))
 ret0 (PV.rp (List.length h6)) h72
 else none
 else none
 else none
 else none
 else none
 else none
 else none
 else none
 else none
 else bif (PV.isRp p1) then
 bif (true&&true&&(hokV h8 86 (PV.rI p1))) then
 bif (true&&decide ((0:Int)≤n2)&&decide (n2 < ((PV.rN (PV.fld (hvarOf h8 (PV.rI p1)) 2)):Int))) then
 bif (true&&true&&(hokR h8 137 (PV.rI (PV.fld (hvarOf h8 (PV.rI p1)) 2)) n2)) then
 bif (true&&decide ((0:Int)≤n3)&&decide (n3 < ((PV.rN (List.getD (hrowOf h8 (PV.rI (PV.fld (hvarOf h8 (PV.rI p1)) 2))) (n2).toNat PV.nil)):Int))) then
 bif (true&&(hokR h8 114 (PV.rI (List.getD (hrowOf h8 (PV.rI (PV.fld (hvarOf h8 (PV.rI p1)) 2))) (n2).toNat PV.nil)) n3)) then
 let h73:List HE:=(List.set h8 (PV.rI (List.getD (hrowOf h8 (PV.rI (PV.fld (hvarOf h8 (PV.rI p1)) 2))) (n2).toNat PV.nil)) (HE.row 114 (List.set (hrowOf h8 (PV.rI (List.getD (hrowOf h8 (PV.rI (PV.fld (hvarOf h8 (PV.rI p1)) 2))) (n2).toNat PV.nil))) (n3).toNat (PV.rp (List.length h6)))))
 ret0 (PV.rp (List.length h6)) h73
 else none
 else none
 else none
 else none
 else none
 else none
 else none
 else none
 else none
 else none
 else none
 else none
 else none
 else none
 else none
 else none
 else none
 else none
 else none
 else none
 else none
 else none
 else none
 else bif (PV.isRp p1) then
 bif (true&&true&&(hokV h4 86 (PV.rI p1))) then
 bif (true&&decide ((0:Int)≤n2)&&decide (n2 < ((PV.rN (PV.fld (hvarOf h4 (PV.rI p1)) 2)):Int))) then
 bif (true&&true&&(hokR h4 137 (PV.rI (PV.fld (hvarOf h4 (PV.rI p1)) 2)) n2)) then
 bif (true&&decide ((0:Int)≤n3)&&decide (n3 < ((PV.rN (List.getD (hrowOf h4 (PV.rI (PV.fld (hvarOf h4 (PV.rI p1)) 2))) (n2).toNat PV.nil)):Int))) then
 bif (true&&true&&(hokR h4 114 (PV.rI (List.getD (hrowOf h4 (PV.rI (PV.fld (hvarOf h4 (PV.rI p1)) 2))) (n2).toNat PV.nil)) n3)) then
 let p74:PV:=(List.getD (hrowOf h4 (PV.rI (List.getD (hrowOf h4 (PV.rI (PV.fld (hvarOf h4 (PV.rI p1)) 2))) (n2).toNat PV.nil))) (n3).toNat PV.nil)
 bif (!(PV.isNil p74)) then
 ret0 p74 h4
 else let h75:List HE:=(h4++[HE.var 139 (PV.agg [(PV.int 0),(PV.int 0),(PV.int 0),(PV.int 0),(PV.int 0)])])
 bif (PV.isRp p1) then
 bif (true&&true&&(hokV h75 86 (PV.rI p1))) then
 bif (true&&decide ((0:Int)≤n2)&&decide (n2 < ((PV.rN (PV.fld (hvarOf h75 (PV.rI p1)) 0)):Int))) then
 bif (true&&true&&(hokR h75 118 (PV.rI (PV.fld (hvarOf h75 (PV.rI p1)) 0)) n2)) then
 let n76:Int:=(PV.num (PV.fld (PV.fld (List.getD (hrowOf h75 (PV.rI (PV.fld (hvarOf h75 (PV.rI p1)) 0))) (n2).toNat PV.nil) 0) 0))
 bif (decide (n76=(1:Int))) then
 c113 (PV.rp (List.length h4)) n3 h75 fun h77 =>
 bif (PV.isRp p1) then
 bif (true&&true&&(hokV h77 86 (PV.rI p1))) then
 bif (true&&decide ((0:Int)≤n2)&&decide (n2 < ((PV.rN (PV.fld (hvarOf h77 (PV.rI p1)) 2)):Int))) then
 bif (true&&true&&(hokR h77 137 (PV.rI (PV.fld (hvarOf h77 (PV.rI p1)) 2)) n2)) then
 bif (true&&decide ((0:Int)≤n3)&&decide (n3 < ((PV.rN (List.getD (hrowOf h77 (PV.rI (PV.fld (hvarOf h77 (PV.rI p1)) 2))) (n2).toNat PV.nil)):Int))) then
 bif (true&&(hokR h77 114 (PV.rI (List.getD (hrowOf h77 (PV.rI (PV.fld (hvarOf h77 (PV.rI p1)) 2))) (n2).toNat PV.nil)) n3)) then
 let h78:List HE:=(List.set h77 (PV.rI (List.getD (hrowOf h77 (PV.rI (PV.fld (hvarOf h77 (PV.rI p1)) 2))) (n2).toNat PV.nil)) (HE.row 114 (List.set (hrowOf h77 (PV.rI (List.getD (hrowOf h77 (PV.rI (PV.fld (hvarOf h77 (PV.rI p1)) 2))) (n2).toNat PV.nil))) (n3).toNat (PV.rp (List.length h4)))))
 ret0 (PV.rp (List.length h4)) h78
 else none
 else none
 else none
 else none
 else none
 else none
 else bif (decide (n76=(2:Int))) then
 bif (PV.isRp p1) then
 bif (true&&true&&(hokV h75 86 (PV.rI p1))) then
 bif ((decide (n3 < (List.length (PV.els (PV.fld (hvarOf h75 (PV.rI p1)) 1)):Int)))==true) then
 bif (true&&true&&(hokR h75 118 (PV.rI (PV.fld (hvarOf h75 (PV.rI p1)) 0)) n2)) then
 let p79:PV:=(PV.fld (PV.fld (List.getD (hrowOf h75 (PV.rI (PV.fld (hvarOf h75 (PV.rI p1)) 0))) (n2).toNat PV.nil) 0) 1)
 bif (PV.isRp p1) then
 bif (true&&true&&(hokV h75 86 (PV.rI p1))) then
 bif (true&&decide ((0:Int)≤n3)&&decide (n3 < (List.length (PV.els (PV.fld (hvarOf h75 (PV.rI p1)) 1)):Int))) then
 c31 p79 (PV.num (List.getD (PV.els (PV.fld (hvarOf h75 (PV.rI p1)) 1)) (n3).toNat PV.nil)) fun b80 =>
 bif b80 then
 c113 (PV.rp (List.length h4)) (IntKind.wrap .i64 (n3+(1:Int))) h75 fun h81 =>
 bif (PV.isRp p1) then
 bif (true&&true&&(hokV h81 86 (PV.rI p1))) then
 bif (true&&decide ((0:Int)≤n2)&&decide (n2 < ((PV.rN (PV.fld (hvarOf h81 (PV.rI p1)) 2)):Int))) then
 bif (true&&true&&(hokR h81 137 (PV.rI (PV.fld (hvarOf h81 (PV.rI p1)) 2)) n2)) then
 bif (true&&decide ((0:Int)≤n3)&&decide (n3 < ((PV.rN (List.getD (hrowOf h81 (PV.rI (PV.fld (hvarOf h81 (PV.rI p1)) 2))) (n2).toNat PV.nil)):Int))) then
 bif (true&&(hokR h81 114 (PV.rI (List.getD (hrowOf h81 (PV.rI (PV.fld (hvarOf h81 (PV.rI p1)) 2))) (n2).toNat PV.nil)) n3)) then
 let h82:List HE:=(List.set h81 (PV.rI (List.getD (hrowOf h81 (PV.rI (PV.fld (hvarOf h81 (PV.rI p1)) 2))) (n2).toNat PV.nil)) (HE.row 114 (List.set (hrowOf h81 (PV.rI (List.getD (hrowOf h81 (PV.rI (PV.fld (hvarOf h81 (PV.rI p1)) 2))) (n2).toNat PV.nil))) (n3).toNat (PV.rp (List.length h4)))))
 ret0 (PV.rp (List.length h4)) h82
 else none
 else none
 else none
 else none
 else none
 else none
 else bif (PV.isRp p1) then
 bif (true&&true&&(hokV h75 86 (PV.rI p1))) then
 bif (true&&decide ((0:Int)≤n2)&&decide (n2 < ((PV.rN (PV.fld (hvarOf h75 (PV.rI p1)) 2)):Int))) then
 bif (true&&true&&(hokR h75 137 (PV.rI (PV.fld (hvarOf h75 (PV.rI p1)) 2)) n2)) then
 bif (true&&decide ((0:Int)≤n3)&&decide (n3 < ((PV.rN (List.getD (hrowOf h75 (PV.rI (PV.fld (hvarOf h75 (PV.rI p1)) 2))) (n2).toNat PV.nil)):Int))) then
 bif (true&&(hokR h75 114 (PV.rI (List.getD (hrowOf h75 (PV.rI (PV.fld (hvarOf h75 (PV.rI p1)) 2))) (n2).toNat PV.nil)) n3)) then
 let h83:List HE:=(List.set h75 (PV.rI (List.getD (hrowOf h75 (PV.rI (PV.fld (hvarOf h75 (PV.rI p1)) 2))) (n2).toNat PV.nil)) (HE.row 114 (List.set (hrowOf h75 (PV.rI (List.getD (hrowOf h75 (PV.rI (PV.fld (hvarOf h75 (PV.rI p1)) 2))) (n2).toNat PV.nil))) (n3).toNat (PV.rp (List.length h4)))))
 ret0 (PV.rp (List.length h4)) h83
 else none
 else none
 else none
 else none
 else none
 else none
 else none
 else none
 else none
 else none
 else bif (PV.isRp p1) then
 bif (true&&true&&(hokV h75 86 (PV.rI p1))) then
 bif (true&&decide ((0:Int)≤n2)&&decide (n2 < ((PV.rN (PV.fld (hvarOf h75 (PV.rI p1)) 2)):Int))) then
 bif (true&&true&&(hokR h75 137 (PV.rI (PV.fld (hvarOf h75 (PV.rI p1)) 2)) n2)) then
 bif (true&&decide ((0:Int)≤n3)&&decide (n3 < ((PV.rN (List.getD (hrowOf h75 (PV.rI (PV.fld (hvarOf h75 (PV.rI p1)) 2))) (n2).toNat PV.nil)):Int))) then
 bif (true&&(hokR h75 114 (PV.rI (List.getD (hrowOf h75 (PV.rI (PV.fld (hvarOf h75 (PV.rI p1)) 2))) (n2).toNat PV.nil)) n3)) then
 let h84:List HE:=(List.set h75 (PV.rI (List.getD (hrowOf h75 (PV.rI (PV.fld (hvarOf h75 (PV.rI p1)) 2))) (n2).toNat PV.nil)) (HE.row 114 (List.set (hrowOf h75 (PV.rI (List.getD (hrowOf h75 (PV.rI (PV.fld (hvarOf h75 (PV.rI p1)) 2))) (n2).toNat PV.nil))) (n3).toNat (PV.rp (List.length h4)))))
 ret0 (PV.rp (List.length h4)) h84
 else none
 else none
 else none
 else none
 else none
 else none
 else none
 else none
 else bif (decide (n76=(3:Int))) then
 bif (true&&true&&(hokR h75 118 (PV.rI (PV.fld (hvarOf h75 (PV.rI p1)) 0)) n2)) then
 bif (true&&decide ((0:Int)≤(0:Int))&&decide ((0:Int) < ((PV.rN (PV.fld (List.getD (hrowOf h75 (PV.rI (PV.fld (hvarOf h75 (PV.rI p1)) 0))) (n2).toNat PV.nil) 1)):Int))) then
 bif (true&&true&&(hokR h75 3 (PV.rI (PV.fld (List.getD (hrowOf h75 (PV.rI (PV.fld (hvarOf h75 (PV.rI p1)) 0))) (n2).toNat PV.nil) 1)) (0:Int))) then
 let n85:Int:=(PV.num (List.getD (hrowOf h75 (PV.rI (PV.fld (List.getD (hrowOf h75 (PV.rI (PV.fld (hvarOf h75 (PV.rI p1)) 0))) (n2).toNat PV.nil) 1))) ((0:Int)).toNat PV.nil))
 c96 p1 n85 n3 h75 fun p86 h87 =>
 w1 h4 h75 p86 n3 h87
 else none
 else none
 else none
 else bif (decide (n76=(4:Int))) then
 bif (true&&true&&(hokR h75 118 (PV.rI (PV.fld (hvarOf h75 (PV.rI p1)) 0)) n2)) then
 bif (true&&decide ((0:Int)≤(0:Int))&&decide ((0:Int) < ((PV.rN (PV.fld (List.getD (hrowOf h75 (PV.rI (PV.fld (hvarOf h75 (PV.rI p1)) 0))) (n2).toNat PV.nil) 1)):Int))) then
 bif (true&&true&&(hokR h75 3 (PV.rI (PV.fld (List.getD (hrowOf h75 (PV.rI (PV.fld (hvarOf h75 (PV.rI p1)) 0))) (n2).toNat PV.nil) 1)) (0:Int))) then
 let n104:Int:=(PV.num (List.getD (hrowOf h75 (PV.rI (PV.fld (List.getD (hrowOf h75 (PV.rI (PV.fld (hvarOf h75 (PV.rI p1)) 0))) (n2).toNat PV.nil) 1))) ((0:Int)).toNat PV.nil))
 c96 p1 n104 n3 h75 fun p105 h106 =>
 c114 (PV.rp (List.length h4)) p105 h106 fun h107 =>
 bif (true&&true&&(hokR h107 118 (PV.rI (PV.fld (hvarOf h75 (PV.rI p1)) 0)) n2)) then
 bif (true&&decide ((0:Int)≤(1:Int))&&decide ((1:Int) < ((PV.rN (PV.fld (List.getD (hrowOf h107 (PV.rI (PV.fld (hvarOf h75 (PV.rI p1)) 0))) (n2).toNat PV.nil) 1)):Int))) then
 bif (true&&true&&(hokR h107 3 (PV.rI (PV.fld (List.getD (hrowOf h107 (PV.rI (PV.fld (hvarOf h75 (PV.rI p1)) 0))) (n2).toNat PV.nil) 1)) (1:Int))) then
 let n108:Int:=(PV.num (List.getD (hrowOf h107 (PV.rI (PV.fld (List.getD (hrowOf h107 (PV.rI (PV.fld (hvarOf h75 (PV.rI p1)) 0))) (n2).toNat PV.nil) 1))) ((1:Int)).toNat PV.nil))
 c96 p1 n108 n3 h107 fun p109 h110 =>
 c114 (PV.rp (List.length h4)) p109 h110 fun h111 =>
 bif (PV.isRp p1) then
 bif (true&&true&&(hokV h111 86 (PV.rI p1))) then
 bif (true&&decide ((0:Int)≤n2)&&decide (n2 < ((PV.rN (PV.fld (hvarOf h111 (PV.rI p1)) 2)):Int))) then
 bif (true&&true&&(hokR h111 137 (PV.rI (PV.fld (hvarOf h111 (PV.rI p1)) 2)) n2)) then
 bif (true&&decide ((0:Int)≤n3)&&decide (n3 < ((PV.rN (List.getD (hrowOf h111 (PV.rI (PV.fld (hvarOf h111 (PV.rI p1)) 2))) (n2).toNat PV.nil)):Int))) then
 bif (true&&(hokR h111 114 (PV.rI (List.getD (hrowOf h111 (PV.rI (PV.fld (hvarOf h111 (PV.rI p1)) 2))) (n2).toNat PV.nil)) n3)) then
 let h112:List HE:=(List.set h111 (PV.rI (List.getD (hrowOf h111 (PV.rI (PV.fld (hvarOf h111 (PV.rI p1)) 2))) (n2).toNat PV.nil)) (HE.row 114 (List.set (hrowOf h111 (PV.rI (List.getD (hrowOf h111 (PV.rI (PV.fld (hvarOf h111 (PV.rI p1)) 2))) (n2).toNat PV.nil))) (n3).toNat (PV.rp (List.length h4)))))
 ret0 (PV.rp (List.length h4)) h112
 else none
 else none
 else none
 else none
 else none
 else none
 else none
 else none
 else none
 else none
 else none
 else none
 else bif (decide (n76=(5:Int))) then
 c113 (PV.rp (List.length h4)) n3 h75 fun h113 =>
 w2 h4 h75 n3 h113
 else bif (decide (n76=(6:Int))) then
 bif (true&&true&&(hokR h75 118 (PV.rI (PV.fld (hvarOf h75 (PV.rI p1)) 0)) n2)) then
 bif (true&&decide ((0:Int)≤(0:Int))&&decide ((0:Int) < ((PV.rN (PV.fld (List.getD (hrowOf h75 (PV.rI (PV.fld (hvarOf h75 (PV.rI p1)) 0))) (n2).toNat PV.nil) 1)):Int))) then
 bif (true&&true&&(hokR h75 3 (PV.rI (PV.fld (List.getD (hrowOf h75 (PV.rI (PV.fld (hvarOf h75 (PV.rI p1)) 0))) (n2).toNat PV.nil) 1)) (0:Int))) then
 let n130:Int:=(PV.num (List.getD (hrowOf h75 (PV.rI (PV.fld (List.getD (hrowOf h75 (PV.rI (PV.fld (hvarOf h75 (PV.rI p1)) 0))) (n2).toNat PV.nil) 1))) ((0:Int)).toNat PV.nil))
 c96 p1 n130 n3 h75 fun p131 h132 =>
 c114 (PV.rp (List.length h4)) p131 h132 fun h133 =>
 bif (PV.isRp p1) then
 bif (true&&true&&(hokV h133 86 (PV.rI p1))) then
 bif (true&&decide ((0:Int)≤n2)&&decide (n2 < ((PV.rN (PV.fld (hvarOf h133 (PV.rI p1)) 2)):Int))) then
 bif (true&&true&&(hokR h133 137 (PV.rI (PV.fld (hvarOf h133 (PV.rI p1)) 2)) n2)) then
 bif (true&&decide ((0:Int)≤n3)&&decide (n3 < ((PV.rN (List.getD (hrowOf h133 (PV.rI (PV.fld (hvarOf h133 (PV.rI p1)) 2))) (n2).toNat PV.nil)):Int))) then
 bif (true&&(hokR h133 114 (PV.rI (List.getD (hrowOf h133 (PV.rI (PV.fld (hvarOf h133 (PV.rI p1)) 2))) (n2).toNat PV.nil)) n3)) then
 let h134:List HE:=(List.set h133 (PV.rI (List.getD (hrowOf h133 (PV.rI (PV.fld (hvarOf h133 (PV.rI p1)) 2))) (n2).toNat PV.nil)) (HE.row 114 (List.set (hrowOf h133 (PV.rI (List.getD (hrowOf h133 (PV.rI (PV.fld (hvarOf h133 (PV.rI p1)) 2))) (n2).toNat PV.nil))) (n3).toNat (PV.rp (List.length h4)))))
 ret0 (PV.rp (List.length h4)) h134
 else none
 else none
 else none
 else none
 else none
 else none
 else none
 else none
 else none
 else bif (decide (n76=(7:Int))) then
 bif (true&&true&&(hokR h75 118 (PV.rI (PV.fld (hvarOf h75 (PV.rI p1)) 0)) n2)) then
 bif (true&&decide ((0:Int)≤(0:Int))&&decide ((0:Int) < ((PV.rN (PV.fld (List.getD (hrowOf h75 (PV.rI (PV.fld (hvarOf h75 (PV.rI p1)) 0))) (n2).toNat PV.nil) 1)):Int))) then
 bif (true&&true&&(hokR h75 3 (PV.rI (PV.fld (List.getD (hrowOf h75 (PV.rI (PV.fld (hvarOf h75 (PV.rI p1)) 0))) (n2).toNat PV.nil) 1)) (0:Int))) then
 let n135:Int:=(PV.num (List.getD (hrowOf h75 (PV.rI (PV.fld (List.getD (hrowOf h75 (PV.rI (PV.fld (hvarOf h75 (PV.rI p1)) 0))) (n2).toNat PV.nil) 1))) ((0:Int)).toNat PV.nil))
 c96 p1 n135 n3 h75 fun p136 h137 =>
 c114 (PV.rp (List.length h4)) p136 h137 fun h138 =>
 bif (PV.isRp p1) then
 bif (true&&true&&(hokV h138 86 (PV.rI p1))) then
 bif (true&&decide ((0:Int)≤n2)&&decide (n2 < ((PV.rN (PV.fld (hvarOf h138 (PV.rI p1)) 2)):Int))) then
 bif (true&&true&&(hokR h138 137 (PV.rI (PV.fld (hvarOf h138 (PV.rI p1)) 2)) n2)) then
 bif (true&&decide ((0:Int)≤n3)&&decide (n3 < ((PV.rN (List.getD (hrowOf h138 (PV.rI (PV.fld (hvarOf h138 (PV.rI p1)) 2))) (n2).toNat PV.nil)):Int))) then
 bif (true&&(hokR h138 114 (PV.rI (List.getD (hrowOf h138 (PV.rI (PV.fld (hvarOf h138 (PV.rI p1)) 2))) (n2).toNat PV.nil)) n3)) then
 let h139:List HE:=(List.set h138 (PV.rI (List.getD (hrowOf h138 (PV.rI (PV.fld (hvarOf h138 (PV.rI p1)) 2))) (n2).toNat PV.nil)) (HE.row 114 (List.set (hrowOf h138 (PV.rI (List.getD (hrowOf h138 (PV.rI (PV.fld (hvarOf h138 (PV.rI p1)) 2))) (n2).toNat PV.nil))) (n3).toNat (PV.rp (List.length h4)))))
 ret0 (PV.rp (List.length h4)) h139
 else none
 else none
 else none
 else none
 else none
 else none
 else none
 else none
 else none
 else bif (PV.isRp p1) then
 bif (true&&true&&(hokV h75 86 (PV.rI p1))) then
 bif (true&&decide ((0:Int)≤n2)&&decide (n2 < ((PV.rN (PV.fld (hvarOf h75 (PV.rI p1)) 2)):Int))) then
 bif (true&&true&&(hokR h75 137 (PV.rI (PV.fld (hvarOf h75 (PV.rI p1)) 2)) n2)) then
 bif (true&&decide ((0:Int)≤n3)&&decide (n3 < ((PV.rN (List.getD (hrowOf h75 (PV.rI (PV.fld (hvarOf h75 (PV.rI p1)) 2))) (n2).toNat PV.nil)):Int))) then
 bif (true&&(hokR h75 114 (PV.rI (List.getD (hrowOf h75 (PV.rI (PV.fld (hvarOf h75 (PV.rI p1)) 2))) (n2).toNat PV.nil)) n3)) then
 let h140:List HE:=(List.set h75 (PV.rI (List.getD (hrowOf h75 (PV.rI (PV.fld (hvarOf h75 (PV.rI p1)) 2))) (n2).toNat PV.nil)) (HE.row 114 (List.set (hrowOf h75 (PV.rI (List.getD (hrowOf h75 (PV.rI (PV.fld (hvarOf h75 (PV.rI p1)) 2))) (n2).toNat PV.nil))) (n3).toNat (PV.rp (List.length h4)))))
 ret0 (PV.rp (List.length h4)) h140
 else none
 else none
 else none
 else none
 else none
 else none
 else none
 else none
 else none
 else none
 else none
 else none
 else none
 else none
 else none
 else none
 else none
 else none
 else none
 else none

theorem f96_e_mem (k:Nat)(c31:PV→Int→(Bool→R)→R)(c96:PV→Int→Int→(List HE)→(PV→(List HE)→R)→R)(c97:PV→Int→(List HE)→(Bool→(List HE)→R)→R)(c113:PV→Int→(List HE)→((List HE)→R)→R)(c114:PV→PV→(List HE)→((List HE)→R)→R)(retF:PV × (List HE)→R)(p1:PV)(n2:Int)(n3:Int)(h4:List HE):exec (f96_E k c31 c96 c97 c113 c114) f96_code (endK (f96_E k c31 c96 c97 c113 c114) Try.f96 [1000000000000] f96_un retF) ⟨[.hval 76 p1,.int .i64 n2,.int .i64 n3,.undef,.undef,.undef,.undef,.undef,.undef,.undef,.undef,.undef,.undef,.undef,.undef,.undef,.undef,.undef,.undef,.undef,.undef,.undef,.undef,.undef,.undef,.undef,.undef,.undef,.undef,.undef,.undef,.undef,.undef,.undef,.undef,.undef,.undef,.undef,.undef,.undef,.undef,.undef,.undef,.undef,.undef,.undef,.undef,.undef,.undef,.undef,.undef,.undef,.undef,.undef,.undef,.undef,.undef,.undef,.undef,.undef,.undef,.undef,.undef,.undef,.undef,.undef,.undef,.undef,.undef,.undef,.undef,.undef,.undef,.undef,.undef,.undef,.undef,.undef,.undef,.undef,.undef,.undef,.undef,.undef,.undef,.undef,.undef,.undef,.undef,.undef,.undef,.undef,.undef,.undef,.undef,.undef,.undef,.undef,.undef,.undef,.undef,.undef,.undef,.undef,.undef,.undef,.undef,.undef,.undef,.undef,.undef,.undef,.undef,.undef,.undef,.undef,.undef,.undef,.undef,.undef,.undef,.undef,.undef,.undef,.undef,.undef,.undef,.undef,.undef,.undef,.undef,.undef,.undef,.undef,.undef,.undef,.undef,.undef,.undef,.undef,.undef,.undef,.undef,.undef,.undef,.undef,.undef,.undef,.undef,.undef,.undef,.undef,.undef,.undef,.undef,.undef,.undef,.undef,.undef,.undef,.undef,.undef,.undef,.undef,.undef,.undef,.undef,.undef,.undef,.undef,.undef,.undef,.undef,.undef,.undef,.undef,.undef,.undef,.undef,.undef,.undef,.undef,.undef,.undef,.undef,.undef,.undef,.undef,.undef,.undef,.undef,.undef,.undef,.undef,.undef,.undef,.undef,.undef,.undef,.undef,.undef,.undef,.undef,.undef,.undef,.undef],[(1000000000000,.hp h4)]⟩=f96_e c31 c96 c97 c113 c114 (fun y0 y1=>retF (y0,y1)) (fun h6 h8 p19 n28 h29=>f96_w1A k c31 c96 c97 c113 c114 retF p1 n2 n3 h6 h8 p19 n28 h29) (fun h6 h8 n54 h55=>f96_w2A k c31 c96 c97 c113 c114 retF p1 n2 n3 h6 h8 n54 h55) p1 n2 n3 h4:=by kernel_rfl

noncomputable def f96_N (k:Nat)(c31:PV→Int→(Bool→R)→R)(c96:PV→Int→Int→(List HE)→(PV→(List HE)→R)→R)(c97:PV→Int→(List HE)→(Bool→(List HE)→R)→R)(c113:PV→Int→(List HE)→((List HE)→R)→R)(c114:PV→PV→(List HE)→((List HE)→R)→R)(ret0:PV→(List HE)→R)(p1:PV)(n2:Int)(n3:Int)(h4:List HE):R :=
 f96_e c31 c96 c97 c113 c114 ret0 (fun h6 h8 p19 n28 h29=>f96_w1N k c31 c96 c97 c113 c114 ret0 p1 n2 n3 h6 h8 p19 n28 h29) (fun h6 h8 n54 h55=>f96_w2N k c31 c96 c97 c113 c114 ret0 p1 n2 n3 h6 h8 n54 h55) p1 n2 n3 h4
theorem f96_eq (k:Nat)(c31:PV→Int→(Bool→R)→R)(c96:PV→Int→Int→(List HE)→(PV→(List HE)→R)→R)(c97:PV→Int→(List HE)→(Bool→(List HE)→R)→R)(c113:PV→Int→(List HE)→((List HE)→R)→R)(c114:PV→PV→(List HE)→((List HE)→R)→R)(retF:PV × (List HE)→R)(p1:PV)(n2:Int)(n3:Int)(h4:List HE):exec (f96_E k c31 c96 c97 c113 c114) f96_code (endK (f96_E k c31 c96 c97 c113 c114) Try.f96 [1000000000000] f96_un retF) ⟨[.hval 76 p1,.int .i64 n2,.int .i64 n3,.undef,.undef,.undef,.undef,.undef,.undef,.undef,.undef,.undef,.undef,.undef,.undef,.undef,.undef,.undef,.undef,.undef,.undef,.undef,.undef,.undef,.undef,.undef,.undef,.undef,.undef,.undef,.undef,.undef,.undef,.undef,.undef,.undef,.undef,.undef,.undef,.undef,.undef,.undef,.undef,.undef,.undef,.undef,.undef,.undef,.undef,.undef,.undef,.undef,.undef,.undef,.undef,.undef,.undef,.undef,.undef,.undef,.undef,.undef,.undef,.undef,.undef,.undef,.undef,.undef,.undef,.undef,.undef,.undef,.undef,.undef,.undef,.undef,.undef,.undef,.undef,.undef,.undef,.undef,.undef,.undef,.undef,.undef,.undef,.undef,.undef,.undef,.undef,.undef,.undef,.undef,.undef,.undef,.undef,.undef,.undef,.undef,.undef,.undef,.undef,.undef,.undef,.undef,.undef,.undef,.undef,.undef,.undef,.undef,.undef,.undef,.undef,.undef,.undef,.undef,.undef,.undef,.undef,.undef,.undef,.undef,.undef,.undef,.undef,.undef,.undef,.undef,.undef,.undef,.undef,.undef,.undef,.undef,.undef,.undef,.undef,.undef,.undef,.undef,.undef,.undef,.undef,.undef,.undef,.undef,.undef,.undef,.undef,.undef,.undef,.undef,.undef,.undef,.undef,.undef,.undef,.undef,.undef,.undef,.undef,.undef,.undef,.undef,.undef,.undef,.undef,.undef,.undef,.undef,.undef,.undef,.undef,.undef,.undef,.undef,.undef,.undef,.undef,.undef,.undef,.undef,.undef,.undef,.undef,.undef,.undef,.undef,.undef,.undef,.undef,.undef,.undef,.undef,.undef,.undef,.undef,.undef,.undef,.undef,.undef,.undef,.undef,.undef],[(1000000000000,.hp h4)]⟩=f96_N k c31 c96 c97 c113 c114 (fun y0 y1=>retF (y0,y1)) p1 n2 n3 h4 :=
 (f96_e_mem k c31 c96 c97 c113 c114 retF p1 n2 n3 h4).trans (by rw [show (fun h6 h8 p19 n28 h29=>f96_w1A k c31 c96 c97 c113 c114 retF p1 n2 n3 h6 h8 p19 n28 h29)=(fun h6 h8 p19 n28 h29=>f96_w1N k c31 c96 c97 c113 c114 (fun y0 y1=>retF (y0,y1)) p1 n2 n3 h6 h8 p19 n28 h29) from funext fun h6=>funext fun h8=>funext fun p19=>funext fun n28=>funext fun h29=>f96_w1_eq k c31 c96 c97 c113 c114 retF p1 n2 n3 h6 h8 p19 n28 h29,show (fun h6 h8 n54 h55=>f96_w2A k c31 c96 c97 c113 c114 retF p1 n2 n3 h6 h8 n54 h55)=(fun h6 h8 n54 h55=>f96_w2N k c31 c96 c97 c113 c114 (fun y0 y1=>retF (y0,y1)) p1 n2 n3 h6 h8 n54 h55) from funext fun h6=>funext fun h8=>funext fun n54=>funext fun h55=>f96_w2_eq k c31 c96 c97 c113 c114 retF p1 n2 n3 h6 h8 n54 h55];rfl)

noncomputable def G96:Nat→PV→Int→Int→(List HE)→(PV→(List HE)→R)→R
 | 0,_,_,_,_,_=>none
 | k+1,p1,n2,n3,h4,ret0=>f96_N k (G31 k) (G96 k) (G97 k) (G113 k) (G114 k) ret0 p1 n2 n3 h4
theorem S96:∀ k,Snd Try.prog 96 f96_I f96_O (fun x ret=>G96 k x.1 x.2.1 x.2.2.1 x.2.2.2 (fun y0 y1=>ret (y0,y1)))
 | 0=>snd_none
 | k+1=>snd_step (E:=f96_E k (G31 k) (G96 k) (G97 k) (G113 k) (G114 k)) rfl laidOut noNums (orc_ok (S31 k).o f31_D_ok (orc_ok (S96 k).o f96_D_ok (orc_ok (S97 k).o f97_D_ok (orc_ok (S113 k).o f113_D_ok (orc_ok (S114 k).o f114_D_ok orc0_ok))))) (f:=96) (fn:=Try.f96) (code:=f96_code) Try.func96 (by kernel_rfl) (drawsOk_of laidOut (orc_ok (S31 k).o f31_D_ok (orc_ok (S96 k).o f96_D_ok (orc_ok (S97 k).o f97_D_ok (orc_ok (S113 k).o f113_D_ok (orc_ok (S114 k).o f114_D_ok orc0_ok))))) mixed (by kernel_rfl)) f96_un f96_un_ok [1000000000000] (fun _=>rfl)
   (fun x ret=>f96_eq k (G31 k) (G96 k) (G97 k) (G113 k) (G114 k) ret x.1 x.2.1 x.2.2.1 x.2.2.2)

/- (*catchpole/lang.Table).Says -/
noncomputable def f67_I:PV × Int × Int × Int × (List HE)→List SV × Obs:=fun x=>([.hval 76 x.1,.int .i64 x.2.1,.int .i64 x.2.2.1,.int .i64 x.2.2.2.1],[(1000000000000,.hp x.2.2.2.2)])
noncomputable def f67_D:List SV→Obs→Option (PV × Int × Int × Int × (List HE))
 | [.hval 76 p1,.int .i64 n2,.int .i64 n3,.int .i64 n4],[(1000000000000,.hp h5)]=>some (p1,n2,n3,n4,h5)
 | _,_=>none
theorem f67_D_ok (args:List SV)(B:Obs)(x:PV × Int × Int × Int × (List HE))(h:f67_D args B=some x):f67_I x=(args,B):=by
 unfold f67_D at h
 split at h
 ·injection h with h;subst h;rfl
 ·cases h
noncomputable def f67_O:Bool × (List HE)→Out:=(fun y=>([.bool y.1],[(1000000000000,.hp y.2)]))
noncomputable def f67_un:Out→Option (Bool × (List HE))
 | ([.bool y0],[(1000000000000,.hp y1)])=>some (y0,y1)
 | _=>none
theorem f67_un_ok (o:Out)(y:Bool × (List HE))(h:f67_un o=some y):o=f67_O y:=by
 unfold f67_un at h
 split at h
 ·injection h with h;subst h;rfl
 ·cases h
noncomputable def f67_msk:Nat→Option (List Nat):=fun key=> none
noncomputable def f67_C (c96:PV→Int→Int→(List HE)→(PV→(List HE)→R)→R)(c97:PV→Int→(List HE)→(Bool→(List HE)→R)→R):Oracle:=orc 96 f96_D f96_O (fun x ret=>c96 x.1 x.2.1 x.2.2.1 x.2.2.2 (fun y0 y1=>ret (y0,y1))) <| orc 97 f97_D f97_O (fun x ret=>c97 x.1 x.2.1 x.2.2 (fun y0 y1=>ret (y0,y1))) <| orc0
noncomputable def f67_E (k:Nat)(c96:PV→Int→Int→(List HE)→(PV→(List HE)→R)→R)(c97:PV→Int→(List HE)→(Bool→(List HE)→R)→R):Env:={ P:=Try.prog,nilOwn:=fun d=>false,fldOwn:=fun d i=>false,ownPar:=ownPars,ownRet:=false,hpD:=fun d=>false,hpF:=hpFs,hpNew:=false,mask:=f67_msk,fuel:=k,C:=f67_C c96 c97 }
noncomputable def f67_code:Code:=Try.f67.body.getD .skip
noncomputable def f67_e (c96:PV→Int→Int→(List HE)→(PV→(List HE)→R)→R)(c97:PV→Int→(List HE)→(Bool→(List HE)→R)→R)(ret0:Bool→(List HE)→R)(p1:PV)(n2:Int)(n3:Int)(n4:Int)(h5:List HE):R :=
 c96 p1 n2 n3 h5 fun p6 h7 =>
 c97 p6 n4 h7 fun b8 h9 =>
 ret0 b8 h9

theorem f67_e_mem (k:Nat)(c96:PV→Int→Int→(List HE)→(PV→(List HE)→R)→R)(c97:PV→Int→(List HE)→(Bool→(List HE)→R)→R)(retF:Bool × (List HE)→R)(p1:PV)(n2:Int)(n3:Int)(n4:Int)(h5:List HE):exec (f67_E k c96 c97) f67_code (endK (f67_E k c96 c97) Try.f67 [1000000000000] f67_un retF) ⟨[.hval 76 p1,.int .i64 n2,.int .i64 n3,.int .i64 n4,.undef,.undef,.undef,.undef,.undef,.undef,.undef,.undef,.undef,.undef,.undef],[(1000000000000,.hp h5)]⟩=f67_e c96 c97 (fun y0 y1=>retF (y0,y1)) p1 n2 n3 n4 h5:=by kernel_rfl

noncomputable def f67_N (k:Nat)(c96:PV→Int→Int→(List HE)→(PV→(List HE)→R)→R)(c97:PV→Int→(List HE)→(Bool→(List HE)→R)→R)(ret0:Bool→(List HE)→R)(p1:PV)(n2:Int)(n3:Int)(n4:Int)(h5:List HE):R :=
 f67_e c96 c97 ret0 p1 n2 n3 n4 h5
theorem f67_eq (k:Nat)(c96:PV→Int→Int→(List HE)→(PV→(List HE)→R)→R)(c97:PV→Int→(List HE)→(Bool→(List HE)→R)→R)(retF:Bool × (List HE)→R)(p1:PV)(n2:Int)(n3:Int)(n4:Int)(h5:List HE):exec (f67_E k c96 c97) f67_code (endK (f67_E k c96 c97) Try.f67 [1000000000000] f67_un retF) ⟨[.hval 76 p1,.int .i64 n2,.int .i64 n3,.int .i64 n4,.undef,.undef,.undef,.undef,.undef,.undef,.undef,.undef,.undef,.undef,.undef],[(1000000000000,.hp h5)]⟩=f67_N k c96 c97 (fun y0 y1=>retF (y0,y1)) p1 n2 n3 n4 h5 :=
 (f67_e_mem k c96 c97 retF p1 n2 n3 n4 h5)

noncomputable def G67:Nat→PV→Int→Int→Int→(List HE)→(Bool→(List HE)→R)→R
 | 0,_,_,_,_,_,_=>none
 | k+1,p1,n2,n3,n4,h5,ret0=>f67_N k (G96 k) (G97 k) ret0 p1 n2 n3 n4 h5
theorem S67:∀ k,Snd Try.prog 67 f67_I f67_O (fun x ret=>G67 k x.1 x.2.1 x.2.2.1 x.2.2.2.1 x.2.2.2.2 (fun y0 y1=>ret (y0,y1)))
 | 0=>snd_none
 | k+1=>snd_step (E:=f67_E k (G96 k) (G97 k)) rfl laidOut noNums (orc_ok (S96 k).o f96_D_ok (orc_ok (S97 k).o f97_D_ok orc0_ok)) (f:=67) (fn:=Try.f67) (code:=f67_code) Try.func67 (by kernel_rfl) (drawsOk_of laidOut (orc_ok (S96 k).o f96_D_ok (orc_ok (S97 k).o f97_D_ok orc0_ok)) mixed (by kernel_rfl)) f67_un f67_un_ok [1000000000000] (fun _=>rfl)
   (fun x ret=>f67_eq k (G96 k) (G97 k) ret x.1 x.2.1 x.2.2.1 x.2.2.2.1 x.2.2.2.2)

/- catchpole/lang.Says -/
noncomputable def f34_I:PV × PV→List SV × Obs:=fun x=>([.val 27 x.1,.val 28 x.2],[])
noncomputable def f34_D:List SV→Obs→Option (PV × PV)
 | [.val 27 p1,.val 28 p2],[]=>some (p1,p2)
 | _,_=>none
theorem f34_D_ok (args:List SV)(B:Obs)(x:PV × PV)(h:f34_D args B=some x):f34_I x=(args,B):=by
 unfold f34_D at h
 split at h
 ·injection h with h;subst h;rfl
 ·cases h
noncomputable def f34_O:Bool→Out:=(fun y=>([.bool y],[]))
noncomputable def f34_un:Out→Option (Bool)
 | ([.bool y0],[])=>some y0
 | _=>none
theorem f34_un_ok (o:Out)(y:Bool)(h:f34_un o=some y):o=f34_O y:=by
 unfold f34_un at h
 split at h
 ·injection h with h;subst h;rfl
 ·cases h
noncomputable def f34_msk:Nat→Option (List Nat):=fun key=> none
noncomputable def f34_C (c28:PV→(Bool→R)→R)(c66:PV→PV→(List HE)→(PV→(List HE)→R)→R)(c67:PV→Int→Int→Int→(List HE)→(Bool→(List HE)→R)→R):Oracle:=orc 28 f28_D f28_O (fun x ret=>c28 x (fun y0=>ret y0)) <| orc 66 f66_D f66_O (fun x ret=>c66 x.1 x.2.1 x.2.2 (fun y0 y1=>ret (y0,y1))) <| orc 67 f67_D f67_O (fun x ret=>c67 x.1 x.2.1 x.2.2.1 x.2.2.2.1 x.2.2.2.2 (fun y0 y1=>ret (y0,y1))) <| orc0
noncomputable def f34_E (k:Nat)(c28:PV→(Bool→R)→R)(c66:PV→PV→(List HE)→(PV→(List HE)→R)→R)(c67:PV→Int→Int→Int→(List HE)→(Bool→(List HE)→R)→R):Env:={ P:=Try.prog,nilOwn:=fun d=>false,fldOwn:=fun d i=>false,ownPar:=ownPars,ownRet:=false,hpD:=fun d=>false,hpF:=hpFs,hpNew:=true,mask:=f34_msk,fuel:=k,C:=f34_C c28 c66 c67 }
noncomputable def f34_code:Code:=Try.f34.body.getD .skip
noncomputable def f34_e (c28:PV→(Bool→R)→R)(c66:PV→PV→(List HE)→(PV→(List HE)→R)→R)(c67:PV→Int→Int→Int→(List HE)→(Bool→(List HE)→R)→R)(ret0:Bool→R)(p1:PV)(p2:PV):R :=
 c28 p1 fun b3 =>
 bif (b3==true) then
 bif ((decide ((List.length (PV.els p2):Int)≤(256:Int)))==true) then
 c66 p1 p2 ([]:List HE) fun p4 h5 =>
 c67 p4 0 0 (List.length (PV.els p2):Int) h5 fun b6 h7 =>
 ret0 b6
 else ret0 false
 else ret0 false

theorem f34_e_mem (k:Nat)(c28:PV→(Bool→R)→R)(c66:PV→PV→(List HE)→(PV→(List HE)→R)→R)(c67:PV→Int→Int→Int→(List HE)→(Bool→(List HE)→R)→R)(retF:Bool→R)(p1:PV)(p2:PV):exec (f34_E k c28 c66 c67) f34_code (endK (f34_E k c28 c66 c67) Try.f34 [] f34_un retF) ⟨[.val 27 p1,.val 28 p2,.undef,.undef,.undef,.undef,.undef,.undef,.undef,.undef,.undef,.undef,.undef,.undef,.undef,.undef,.undef,.undef,.undef,.undef],[(1000000000000,.hp ([]:List HE))]⟩=f34_e c28 c66 c67 (fun y0=>retF y0) p1 p2:=by kernel_rfl

noncomputable def f34_N (k:Nat)(c28:PV→(Bool→R)→R)(c66:PV→PV→(List HE)→(PV→(List HE)→R)→R)(c67:PV→Int→Int→Int→(List HE)→(Bool→(List HE)→R)→R)(ret0:Bool→R)(p1:PV)(p2:PV):R :=
 f34_e c28 c66 c67 ret0 p1 p2
theorem f34_eq (k:Nat)(c28:PV→(Bool→R)→R)(c66:PV→PV→(List HE)→(PV→(List HE)→R)→R)(c67:PV→Int→Int→Int→(List HE)→(Bool→(List HE)→R)→R)(retF:Bool→R)(p1:PV)(p2:PV):exec (f34_E k c28 c66 c67) f34_code (endK (f34_E k c28 c66 c67) Try.f34 [] f34_un retF) ⟨[.val 27 p1,.val 28 p2,.undef,.undef,.undef,.undef,.undef,.undef,.undef,.undef,.undef,.undef,.undef,.undef,.undef,.undef,.undef,.undef,.undef,.undef],[(1000000000000,.hp ([]:List HE))]⟩=f34_N k c28 c66 c67 (fun y0=>retF y0) p1 p2 :=
 (f34_e_mem k c28 c66 c67 retF p1 p2)

noncomputable def G34:Nat→PV→PV→(Bool→R)→R
 | 0,_,_,_=>none
 | k+1,p1,p2,ret0=>f34_N k (G28 k) (G66 k) (G67 k) ret0 p1 p2
theorem S34:∀ k,Snd Try.prog 34 f34_I f34_O (fun x ret=>G34 k x.1 x.2 (fun y0=>ret y0))
 | 0=>snd_none
 | k+1=>snd_step (E:=f34_E k (G28 k) (G66 k) (G67 k)) rfl laidOut noNums (orc_ok (S28 k).o f28_D_ok (orc_ok (S66 k).o f66_D_ok (orc_ok (S67 k).o f67_D_ok orc0_ok))) (f:=34) (fn:=Try.f34) (code:=f34_code) Try.func34 (by kernel_rfl) (drawsOk_of laidOut (orc_ok (S28 k).o f28_D_ok (orc_ok (S66 k).o f66_D_ok (orc_ok (S67 k).o f67_D_ok orc0_ok))) mixed (by kernel_rfl)) f34_un f34_un_ok [] (fun _=>rfl)
   (fun x ret=>f34_eq k (G28 k) (G66 k) (G67 k) ret x.1 x.2)

/- catchpole/deriv.Tidy -/
noncomputable def f26_I:PV→List SV × Obs:=fun x=>([.val 27 x],[])
noncomputable def f26_D:List SV→Obs→Option (PV)
 | [.val 27 p1],[]=>some p1
 | _,_=>none
theorem f26_D_ok (args:List SV)(B:Obs)(x:PV)(h:f26_D args B=some x):f26_I x=(args,B):=by
 unfold f26_D at h
 split at h
 ·injection h with h;subst h;rfl
 ·cases h
noncomputable def f26_O:PV→Out:=(fun y=>([.val 27 y],[]))
noncomputable def f26_un:Out→Option (PV)
 | ([.val 27 y0],[])=>some y0
 | _=>none
theorem f26_un_ok (o:Out)(y:PV)(h:f26_un o=some y):o=f26_O y:=by
 unfold f26_un at h
 split at h
 ·injection h with h;subst h;rfl
 ·cases h
noncomputable def f26_msk:Nat→Option (List Nat):=fun key=> none
noncomputable def f26_C (c28:PV→(Bool→R)→R)(c57:PV→(PV→R)→R):Oracle:=orc 28 f28_D f28_O (fun x ret=>c28 x (fun y0=>ret y0)) <| orc 57 f57_D f57_O (fun x ret=>c57 x (fun y0=>ret y0)) <| orc0
noncomputable def f26_E (k:Nat)(c28:PV→(Bool→R)→R)(c57:PV→(PV→R)→R):Env:={ P:=Try.prog,nilOwn:=fun d=>false,fldOwn:=fun d i=>false,ownPar:=ownPars,ownRet:=false,hpD:=fun d=>false,hpF:=hpFs,hpNew:=false,mask:=f26_msk,fuel:=k,C:=f26_C c28 c57 }
noncomputable def f26_code:Code:=Try.f26.body.getD .skip
noncomputable def f26_e (c28:PV→(Bool→R)→R)(c57:PV→(PV→R)→R)(ret0:PV→R)(p1:PV):R :=
 c28 p1 fun b2 =>
 bif (!b2) then
 ret0 p1
 else c57 p1 fun p3 =>
 ret0 p3

theorem f26_e_mem (k:Nat)(c28:PV→(Bool→R)→R)(c57:PV→(PV→R)→R)(retF:PV→R)(p1:PV):exec (f26_E k c28 c57) f26_code (endK (f26_E k c28 c57) Try.f26 [] f26_un retF) ⟨[.val 27 p1,.undef,.undef,.undef,.undef,.undef,.undef,.undef,.undef],[]⟩=f26_e c28 c57 (fun y0=>retF y0) p1:=by kernel_rfl

noncomputable def f26_N (k:Nat)(c28:PV→(Bool→R)→R)(c57:PV→(PV→R)→R)(ret0:PV→R)(p1:PV):R :=
 f26_e c28 c57 ret0 p1
theorem f26_eq (k:Nat)(c28:PV→(Bool→R)→R)(c57:PV→(PV→R)→R)(retF:PV→R)(p1:PV):exec (f26_E k c28 c57) f26_code (endK (f26_E k c28 c57) Try.f26 [] f26_un retF) ⟨[.val 27 p1,.undef,.undef,.undef,.undef,.undef,.undef,.undef,.undef],[]⟩=f26_N k c28 c57 (fun y0=>retF y0) p1 :=
 (f26_e_mem k c28 c57 retF p1)

noncomputable def G26:Nat→PV→(PV→R)→R
 | 0,_,_=>none
 | k+1,p1,ret0=>f26_N k (G28 k) (G57 k) ret0 p1
theorem S26:∀ k,Snd Try.prog 26 f26_I f26_O (fun x ret=>G26 k x (fun y0=>ret y0))
 | 0=>snd_none
 | k+1=>snd_step (E:=f26_E k (G28 k) (G57 k)) rfl laidOut noNums (orc_ok (S28 k).o f28_D_ok (orc_ok (S57 k).o f57_D_ok orc0_ok)) (f:=26) (fn:=Try.f26) (code:=f26_code) Try.func26 (by kernel_rfl) (drawsOk_of laidOut (orc_ok (S28 k).o f28_D_ok (orc_ok (S57 k).o f57_D_ok orc0_ok)) mixed (by kernel_rfl)) f26_un f26_un_ok [] (fun _=>rfl)
   (fun x ret=>f26_eq k (G28 k) (G57 k) ret x)

end Go.Proofs.Ythdonefmfgnilaa
