/- Functions of the program as Lean functions, each tied to the program by the kernel: catchpolelaw22.GreedyKnown -/
import Derived.Test.YtmdlhnojpcnnbaaXC
import Derived.Test.YtmdlhnojpcnnbaaProg
import Derived.KernelRfl
import Derived.Test.YtmdlhnojpcnnbaaBld
set_option linter.unusedVariables false
set_option maxRecDepth 100000
namespace Go.Proofs.Ytmdlhnojpcnnbaa
open Go Go.X
abbrev Ch_0:=PV→(PV→R)→R
abbrev Ch_1:=PV→(Int→R)→R
abbrev Ch_2:=PV→Int→(Bool→R)→R
abbrev Ch_3:=PV→Int→(Bool→Int→R)→R
abbrev Ch_4:=PV→Int→(Int→Int→R)→R
abbrev Ch_5:=Int→(Int→R)→R
abbrev Ch_6:=PV→(Bool→R)→R
abbrev Ch_7:=PV→PV→(List HE)→(Int→(List HE)→R)→R
abbrev Ch_8:=PV→Int→Int→(List HE)→(PV→(List HE)→R)→R
abbrev Ch_9:=PV→Int→(List HE)→(Bool→(List HE)→R)→R
abbrev Ch_10:=PV→Int→(List HE)→((List HE)→R)→R
abbrev Ch_11:=PV→PV→(List HE)→((List HE)→R)→R
abbrev Ch_12:=PV→Int→Int→Int→(List HE)→(Bool→(List HE)→R)→R
abbrev Ch_13:=PV→PV→(Int→R)→R
abbrev Ch_14:=PV→PV→(List HE)→(PV→(List HE)→R)→R
theorem laidOut:laidOutB Try.prog=true:=by kernel_rfl
theorem noNums:noNum Try.prog=true:=by kernel_rfl
theorem mixed:Try.prog.follows .mixedOrders=true:=by kernel_rfl
noncomputable def ownPars:FuncId→Nat→Bool:=fun f i=>(f==94&&i==0)
noncomputable def hpFs:FuncId→Bool:=fun f=>f==17 || f==30 || f==50 || f==59 || f==61 || f==89

noncomputable def f48_I:PV→List SV × Obs:=fun x=>([.val 36 x],[])
noncomputable def f48_D:List SV→Obs→Option (PV)
 | [.val 36 p1],[]=>some p1
 | _,_=>none
theorem f48_D_ok (args:List SV)(B:Obs)(x:PV)(h:f48_D args B=some x):f48_I x=(args,B):=by
 unfold f48_D at h
 split at h
 ·injection h with h;subst h;rfl
 ·cases h
noncomputable def f48_O:PV→Out:=(fun y=>([.val 25 y],[]))
noncomputable def f48_un:Out→Option (PV)
 | ([.val 25 y0],[])=>some y0
 | _=>none
theorem f48_un_ok (o:Out)(y:PV)(h:f48_un o=some y):o=f48_O y:=by
 unfold f48_un at h
 split at h
 ·injection h with h;subst h;rfl
 ·cases h
noncomputable def f48_msk:Nat→Option (List Nat):=fun key=>bif key==9 then some [2,3,6,7,8] else none
noncomputable def f48_C:Oracle:=orc0
noncomputable def f48_E (k:Nat):Env:={ P:=Try.prog,nilOwn:=fun d=>false,fldOwn:=fun d i=>false,ownPar:=ownPars,ownRet:=false,hpD:=fun d=>false,hpF:=hpFs,hpNew:=false,mask:=f48_msk,fuel:=k,C:=f48_C }
noncomputable def f48_code:Code:=Try.f48.body.getD .skip
noncomputable def f48_cw1:Code:=subC f48_code [1,1,0,1,0,0]
noncomputable def f48_hw1_0 (p1:PV)(n5:Int)(p6:PV):St:=⟨[.dead,.dead,.ptr 2 [],.ptr 3 [],.dead,.dead,.val 36 p1,.int .i64 (List.length (PV.els p1):Int),.int .i64 n5,.dead,.dead,.dead,.dead,.dead,.dead,.dead,.dead,.dead,.dead,.dead,.dead,.dead,.dead],[(2,.box 25 (.val 25 (PV.agg [(PV.int 0),(PV.int 0),(PV.int 0),(PV.int 0)]))),(3,.box 25 (.val 25 p6))]⟩
noncomputable def f48_w1A (k:Nat)(retF:PV→R)(p1:PV)(n5:Int)(p6:PV):R:=loopM (f48_E k) f48_cw1 (kont (f48_E k) f48_code [1,1,0,1,0] (endK (f48_E k) Try.f48 [] f48_un retF)) k (f48_hw1_0 p1 n5 p6)
noncomputable def f48_w1b0 (ret0:PV→R)(next_w1_0:Int→PV→R)(p1:PV)(n5:Int)(p6:PV):R :=
 bif (decide (n5 < (List.length (PV.els p1):Int))) then
 bif (true&&decide ((0:Int)≤n5)&&decide (n5 < (List.length (PV.els p1):Int))) then
 bif (true&&decide ((0:Int)≤(IntKind.wrap .u8 (Int.tdiv (PV.num (List.getD (PV.els p1) (n5).toNat PV.nil)) 64)))&&decide ((IntKind.wrap .u8 (Int.tdiv (PV.num (List.getD (PV.els p1) (n5).toNat PV.nil)) 64)) < 4)) then
 let n7:Int:=(PV.num (PV.fld p6 ((IntKind.wrap .u8 (Int.tdiv (PV.num (List.getD (PV.els p1) (n5).toNat PV.nil)) 64))).toNat))
 bif (decide ((0:Int)≤(Int.tmod (PV.num (List.getD (PV.els p1) (n5).toNat PV.nil)) 64))) then
 let n8:Int:=(IntKind.wrap .u64 ((1:Int) * 2 ^ (min ((Int.tmod (PV.num (List.getD (PV.els p1) (n5).toNat PV.nil)) 64)).toNat 64)))
 bif (true&&decide ((0:Int)≤(IntKind.wrap .u8 (Int.tdiv (PV.num (List.getD (PV.els p1) (n5).toNat PV.nil)) 64)))&&decide ((IntKind.wrap .u8 (Int.tdiv (PV.num (List.getD (PV.els p1) (n5).toNat PV.nil)) 64)) < 4)) then
 let p9:PV:=(PV.agg (List.set (PV.flds p6) ((IntKind.wrap .u8 (Int.tdiv (PV.num (List.getD (PV.els p1) (n5).toNat PV.nil)) 64))).toNat (PV.int (intBit .or .u64 n7 n8))))
 next_w1_0 (IntKind.wrap .i64 (n5+(1:Int))) p9
 else none
 else none
 else none
 else none
 else ret0 p6

theorem f48_w1b0_mem (k:Nat)(retF:PV→R)(NX_w1:St→R)(p1:PV)(n5:Int)(p6:PV):exec (f48_E k) f48_cw1 (purgeK (f48_E k) f48_cw1 (loopK NX_w1 (kont (f48_E k) f48_code [1,1,0,1,0] (endK (f48_E k) Try.f48 [] f48_un retF)))) (f48_hw1_0 p1 n5 p6)=f48_w1b0 (fun y0=>retF y0) (fun n5 p6=>NX_w1 (f48_hw1_0 p1 n5 p6)) p1 n5 p6:=by kernel_rfl

noncomputable def f48_w1b0N (k:Nat)(ret0:PV→R)(next_w1_0:Int→PV→R)(p1:PV)(n5:Int)(p6:PV):R :=
 f48_w1b0 ret0 next_w1_0 p1 n5 p6
theorem f48_w1b0_eq (k:Nat)(retF:PV→R)(NX_w1:St→R)(p1:PV)(n5:Int)(p6:PV):exec (f48_E k) f48_cw1 (purgeK (f48_E k) f48_cw1 (loopK NX_w1 (kont (f48_E k) f48_code [1,1,0,1,0] (endK (f48_E k) Try.f48 [] f48_un retF)))) (f48_hw1_0 p1 n5 p6)=f48_w1b0N k (fun y0=>retF y0) (fun n5 p6=>NX_w1 (f48_hw1_0 p1 n5 p6)) p1 n5 p6 :=
 (f48_w1b0_mem k retF NX_w1 p1 n5 p6)

noncomputable def f48_w1B (k:Nat)(ret0:PV→R)(p1:PV)(nx:Int × PV→R):Int × PV→R:=(fun s=>f48_w1b0N k ret0 (fun n5 p6=>nx (n5,p6)) p1 s.1 s.2)
noncomputable def f48_w1N (k:Nat)(ret0:PV→R)(p1:PV)(n5:Int)(p6:PV):R:=loopR (f48_w1B k ret0 p1) k (n5,p6)
theorem f48_w1_eq (k:Nat)(retF:PV→R)(p1:PV)(n5:Int)(p6:PV):f48_w1A k retF p1 n5 p6=f48_w1N k (fun y0=>retF y0) p1 n5 p6 :=
 Eq.mp (by kernel_rfl) (loop_sim (E:=(f48_E k)) (c:=f48_cw1) (K:=(kont (f48_E k) f48_code [1,1,0,1,0] (endK (f48_E k) Try.f48 [] f48_un retF))) (S:=Int × PV) (fun s=>f48_hw1_0 p1 s.1 s.2) (f48_w1B k (fun y0=>retF y0) p1) (fun NX s=>by
  exact Eq.mp (by kernel_rfl) (f48_w1b0_eq k retF NX p1 s.1 s.2)) k (n5,p6))

noncomputable def f48_e (ret0:PV→R)(w1:Int→PV→R)(p1:PV):R :=
 w1 0 (PV.agg [(PV.int 0),(PV.int 0),(PV.int 0),(PV.int 0)])

theorem f48_e_mem (k:Nat)(retF:PV→R)(p1:PV):exec (f48_E k) f48_code (endK (f48_E k) Try.f48 [] f48_un retF) ⟨[.val 36 p1,.undef,.undef,.undef,.undef,.undef,.undef,.undef,.undef,.undef,.undef,.undef,.undef,.undef,.undef,.undef,.undef,.undef,.undef,.undef,.undef,.undef,.undef],[]⟩=f48_e (fun y0=>retF y0) (fun n5 p6=>f48_w1A k retF p1 n5 p6) p1:=by kernel_rfl

noncomputable def f48_N (k:Nat)(ret0:PV→R)(p1:PV):R :=
 f48_e ret0 (fun n5 p6=>f48_w1N k ret0 p1 n5 p6) p1
theorem f48_eq (k:Nat)(retF:PV→R)(p1:PV):exec (f48_E k) f48_code (endK (f48_E k) Try.f48 [] f48_un retF) ⟨[.val 36 p1,.undef,.undef,.undef,.undef,.undef,.undef,.undef,.undef,.undef,.undef,.undef,.undef,.undef,.undef,.undef,.undef,.undef,.undef,.undef,.undef,.undef,.undef],[]⟩=f48_N k (fun y0=>retF y0) p1 :=
 (f48_e_mem k retF p1).trans (by rw [show (fun n5 p6=>f48_w1A k retF p1 n5 p6)=(fun n5 p6=>f48_w1N k (fun y0=>retF y0) p1 n5 p6) from funext fun n5=>funext fun p6=>f48_w1_eq k retF p1 n5 p6];rfl)

noncomputable def G48:Nat→PV→(PV→R)→R
 | 0,_,_=>none
 | k+1,p1,ret0=>f48_N k  ret0 p1
theorem S48:∀ k,Snd Try.prog 48 f48_I f48_O (fun x ret=>G48 k x (fun y0=>ret y0))
 | 0=>snd_none
 | k+1=>snd_step (E:=f48_E k ) rfl laidOut noNums orc0_ok (f:=48) (fn:=Try.f48) (code:=f48_code) Try.func48 (by kernel_rfl) (drawsOk_of laidOut orc0_ok mixed (by kernel_rfl)) f48_un f48_un_ok [] (fun _=>rfl)
   (fun x ret=>f48_eq k  ret x)

noncomputable def f36_I:PV→List SV × Obs:=fun x=>([.val 36 x],[])
noncomputable def f36_D:List SV→Obs→Option (PV)
 | [.val 36 p1],[]=>some p1
 | _,_=>none
theorem f36_D_ok (args:List SV)(B:Obs)(x:PV)(h:f36_D args B=some x):f36_I x=(args,B):=by
 unfold f36_D at h
 split at h
 ·injection h with h;subst h;rfl
 ·cases h
noncomputable def f36_O:PV→Out:=(fun y=>([.val 28 y],[]))
noncomputable def f36_un:Out→Option (PV)
 | ([.val 28 y0],[])=>some y0
 | _=>none
theorem f36_un_ok (o:Out)(y:PV)(h:f36_un o=some y):o=f36_O y:=by
 unfold f36_un at h
 split at h
 ·injection h with h;subst h;rfl
 ·cases h
noncomputable def f36_msk:Nat→Option (List Nat):=fun key=> none
noncomputable def f36_C (c48:Ch_0):Oracle:=orc 48 f48_D f48_O (fun x ret=>c48 x (fun y0=>ret y0)) <| orc0
noncomputable def f36_E (k:Nat)(c48:Ch_0):Env:={ P:=Try.prog,nilOwn:=fun d=>false,fldOwn:=fun d i=>false,ownPar:=ownPars,ownRet:=false,hpD:=fun d=>false,hpF:=hpFs,hpNew:=false,mask:=f36_msk,fuel:=k,C:=f36_C c48 }
noncomputable def f36_code:Code:=Try.f36.body.getD .skip
noncomputable def f36_e (c48:Ch_0)(ret0:PV→R)(p1:PV):R :=
 c48 p1 fun p2 =>
 ret0 (PV.agg [(PV.int 2),p2,(PV.int 0),(PV.list [])])

theorem f36_e_mem (k:Nat)(c48:Ch_0)(retF:PV→R)(p1:PV):exec (f36_E k c48) f36_code (endK (f36_E k c48) Try.f36 [] f36_un retF) ⟨[.val 36 p1,.undef,.undef,.undef,.undef,.undef],[]⟩=f36_e c48 (fun y0=>retF y0) p1:=by kernel_rfl

noncomputable def f36_N (k:Nat)(c48:Ch_0)(ret0:PV→R)(p1:PV):R :=
 f36_e c48 ret0 p1
theorem f36_eq (k:Nat)(c48:Ch_0)(retF:PV→R)(p1:PV):exec (f36_E k c48) f36_code (endK (f36_E k c48) Try.f36 [] f36_un retF) ⟨[.val 36 p1,.undef,.undef,.undef,.undef,.undef],[]⟩=f36_N k c48 (fun y0=>retF y0) p1 :=
 (f36_e_mem k c48 retF p1)

noncomputable def G36:Nat→PV→(PV→R)→R
 | 0,_,_=>none
 | k+1,p1,ret0=>f36_N k (G48 k) ret0 p1
theorem S36:∀ k,Snd Try.prog 36 f36_I f36_O (fun x ret=>G36 k x (fun y0=>ret y0))
 | 0=>snd_none
 | k+1=>snd_step (E:=f36_E k (G48 k)) rfl laidOut noNums (orc_ok (S48 k).o f48_D_ok orc0_ok) (f:=36) (fn:=Try.f36) (code:=f36_code) Try.func36 (by kernel_rfl) (drawsOk_of laidOut (orc_ok (S48 k).o f48_D_ok orc0_ok) mixed (by kernel_rfl)) f36_un f36_un_ok [] (fun _=>rfl)
   (fun x ret=>f36_eq k (G48 k) ret x)

noncomputable def f34_I:PV × PV→List SV × Obs:=fun x=>([.val 28 x.1,.val 28 x.2],[])
noncomputable def f34_D:List SV→Obs→Option (PV × PV)
 | [.val 28 p1,.val 28 p2],[]=>some (p1,p2)
 | _,_=>none
theorem f34_D_ok (args:List SV)(B:Obs)(x:PV × PV)(h:f34_D args B=some x):f34_I x=(args,B):=by
 unfold f34_D at h
 split at h
 ·injection h with h;subst h;rfl
 ·cases h
noncomputable def f34_O:PV→Out:=(fun y=>([.val 28 y],[]))
noncomputable def f34_un:Out→Option (PV)
 | ([.val 28 y0],[])=>some y0
 | _=>none
theorem f34_un_ok (o:Out)(y:PV)(h:f34_un o=some y):o=f34_O y:=by
 unfold f34_un at h
 split at h
 ·injection h with h;subst h;rfl
 ·cases h
noncomputable def f34_msk:Nat→Option (List Nat):=fun key=> none
noncomputable def f34_C:Oracle:=orc0
noncomputable def f34_E (k:Nat):Env:={ P:=Try.prog,nilOwn:=fun d=>false,fldOwn:=fun d i=>false,ownPar:=ownPars,ownRet:=false,hpD:=fun d=>false,hpF:=hpFs,hpNew:=false,mask:=f34_msk,fuel:=k,C:=f34_C }
noncomputable def f34_code:Code:=Try.f34.body.getD .skip
noncomputable def f34_e (ret0:PV→R)(p1:PV)(p2:PV):R :=
 ret0 (PV.agg [(PV.int 3),(PV.agg [(PV.int 0),(PV.int 0),(PV.int 0),(PV.int 0)]),(PV.int 0),(PV.list [p1,p2])])

theorem f34_e_mem (k:Nat)(retF:PV→R)(p1:PV)(p2:PV):exec (f34_E k) f34_code (endK (f34_E k) Try.f34 [] f34_un retF) ⟨[.val 28 p1,.val 28 p2,.undef,.undef,.undef,.undef,.undef,.undef,.undef],[]⟩=f34_e (fun y0=>retF y0) p1 p2:=by kernel_rfl

noncomputable def f34_N (k:Nat)(ret0:PV→R)(p1:PV)(p2:PV):R :=
 f34_e ret0 p1 p2
theorem f34_eq (k:Nat)(retF:PV→R)(p1:PV)(p2:PV):exec (f34_E k) f34_code (endK (f34_E k) Try.f34 [] f34_un retF) ⟨[.val 28 p1,.val 28 p2,.undef,.undef,.undef,.undef,.undef,.undef,.undef],[]⟩=f34_N k (fun y0=>retF y0) p1 p2 :=
 (f34_e_mem k retF p1 p2)

noncomputable def G34:Nat→PV→PV→(PV→R)→R
 | 0,_,_,_=>none
 | k+1,p1,p2,ret0=>f34_N k  ret0 p1 p2
theorem S34:∀ k,Snd Try.prog 34 f34_I f34_O (fun x ret=>G34 k x.1 x.2 (fun y0=>ret y0))
 | 0=>snd_none
 | k+1=>snd_step (E:=f34_E k ) rfl laidOut noNums orc0_ok (f:=34) (fn:=Try.f34) (code:=f34_code) Try.func34 (by kernel_rfl) (drawsOk_of laidOut orc0_ok mixed (by kernel_rfl)) f34_un f34_un_ok [] (fun _=>rfl)
   (fun x ret=>f34_eq k  ret x.1 x.2)

noncomputable def f35_I:PV × PV→List SV × Obs:=fun x=>([.val 28 x.1,.val 28 x.2],[])
noncomputable def f35_D:List SV→Obs→Option (PV × PV)
 | [.val 28 p1,.val 28 p2],[]=>some (p1,p2)
 | _,_=>none
theorem f35_D_ok (args:List SV)(B:Obs)(x:PV × PV)(h:f35_D args B=some x):f35_I x=(args,B):=by
 unfold f35_D at h
 split at h
 ·injection h with h;subst h;rfl
 ·cases h
noncomputable def f35_O:PV→Out:=(fun y=>([.val 28 y],[]))
noncomputable def f35_un:Out→Option (PV)
 | ([.val 28 y0],[])=>some y0
 | _=>none
theorem f35_un_ok (o:Out)(y:PV)(h:f35_un o=some y):o=f35_O y:=by
 unfold f35_un at h
 split at h
 ·injection h with h;subst h;rfl
 ·cases h
noncomputable def f35_msk:Nat→Option (List Nat):=fun key=> none
noncomputable def f35_C:Oracle:=orc0
noncomputable def f35_E (k:Nat):Env:={ P:=Try.prog,nilOwn:=fun d=>false,fldOwn:=fun d i=>false,ownPar:=ownPars,ownRet:=false,hpD:=fun d=>false,hpF:=hpFs,hpNew:=false,mask:=f35_msk,fuel:=k,C:=f35_C }
noncomputable def f35_code:Code:=Try.f35.body.getD .skip
noncomputable def f35_e (ret0:PV→R)(p1:PV)(p2:PV):R :=
 ret0 (PV.agg [(PV.int 4),(PV.agg [(PV.int 0),(PV.int 0),(PV.int 0),(PV.int 0)]),(PV.int 0),(PV.list [p1,p2])])

theorem f35_e_mem (k:Nat)(retF:PV→R)(p1:PV)(p2:PV):exec (f35_E k) f35_code (endK (f35_E k) Try.f35 [] f35_un retF) ⟨[.val 28 p1,.val 28 p2,.undef,.undef,.undef,.undef,.undef,.undef,.undef],[]⟩=f35_e (fun y0=>retF y0) p1 p2:=by kernel_rfl

noncomputable def f35_N (k:Nat)(ret0:PV→R)(p1:PV)(p2:PV):R :=
 f35_e ret0 p1 p2
theorem f35_eq (k:Nat)(retF:PV→R)(p1:PV)(p2:PV):exec (f35_E k) f35_code (endK (f35_E k) Try.f35 [] f35_un retF) ⟨[.val 28 p1,.val 28 p2,.undef,.undef,.undef,.undef,.undef,.undef,.undef],[]⟩=f35_N k (fun y0=>retF y0) p1 p2 :=
 (f35_e_mem k retF p1 p2)

noncomputable def G35:Nat→PV→PV→(PV→R)→R
 | 0,_,_,_=>none
 | k+1,p1,p2,ret0=>f35_N k  ret0 p1 p2
theorem S35:∀ k,Snd Try.prog 35 f35_I f35_O (fun x ret=>G35 k x.1 x.2 (fun y0=>ret y0))
 | 0=>snd_none
 | k+1=>snd_step (E:=f35_E k ) rfl laidOut noNums orc0_ok (f:=35) (fn:=Try.f35) (code:=f35_code) Try.func35 (by kernel_rfl) (drawsOk_of laidOut orc0_ok mixed (by kernel_rfl)) f35_un f35_un_ok [] (fun _=>rfl)
   (fun x ret=>f35_eq k  ret x.1 x.2)

noncomputable def f23_I:PV→List SV × Obs:=fun x=>([.val 28 x],[])
noncomputable def f23_D:List SV→Obs→Option (PV)
 | [.val 28 p1],[]=>some p1
 | _,_=>none
theorem f23_D_ok (args:List SV)(B:Obs)(x:PV)(h:f23_D args B=some x):f23_I x=(args,B):=by
 unfold f23_D at h
 split at h
 ·injection h with h;subst h;rfl
 ·cases h
noncomputable def f23_O:Int→Out:=(fun y=>([.int .i64 y],[]))
noncomputable def f23_un:Out→Option (Int)
 | ([.int .i64 y0],[])=>some y0
 | _=>none
theorem f23_un_ok (o:Out)(y:Int)(h:f23_un o=some y):o=f23_O y:=by
 unfold f23_un at h
 split at h
 ·injection h with h;subst h;rfl
 ·cases h
noncomputable def f23_msk:Nat→Option (List Nat):=fun key=>bif key==9 then some [3,7,8,9] else none
noncomputable def f23_C (c23:Ch_1):Oracle:=orc 23 f23_D f23_O (fun x ret=>c23 x (fun y0=>ret y0)) <| orc0
noncomputable def f23_E (k:Nat)(c23:Ch_1):Env:={ P:=Try.prog,nilOwn:=fun d=>false,fldOwn:=fun d i=>false,ownPar:=ownPars,ownRet:=false,hpD:=fun d=>false,hpF:=hpFs,hpNew:=false,mask:=f23_msk,fuel:=k,C:=f23_C c23 }
noncomputable def f23_code:Code:=Try.f23.body.getD .skip
noncomputable def f23_cw1:Code:=subC f23_code [1,1,0,1,0,0]
noncomputable def f23_hw1_0 (p1:PV)(n3:Int)(n4:Int):St:=⟨[.dead,.dead,.dead,.int .i64 n3,.dead,.dead,.dead,.val 26 (PV.fld p1 3),.int .i64 (List.length (PV.els (PV.fld p1 3)):Int),.int .i64 n4,.dead,.dead,.dead,.dead,.dead,.dead,.dead,.dead,.dead,.dead,.dead,.dead],[]⟩
noncomputable def f23_w1A (k:Nat)(c23:Ch_1)(retF:Int→R)(p1:PV)(n3:Int)(n4:Int):R:=loopM (f23_E k c23) f23_cw1 (kont (f23_E k c23) f23_code [1,1,0,1,0] (endK (f23_E k c23) Try.f23 [] f23_un retF)) k (f23_hw1_0 p1 n3 n4)
noncomputable def f23_w1b0 (c23:Ch_1)(ret0:Int→R)(next_w1_0:Int→Int→R)(p1:PV)(n3:Int)(n4:Int):R :=
 bif (decide (n4 < (List.length (PV.els (PV.fld p1 3)):Int))) then
 bif (true&&decide ((0:Int)≤n4)&&decide (n4 < (List.length (PV.els (PV.fld p1 3)):Int))) then
 bif (decide ((100000:Int)≤n3)) then
 ret0 (if (100000:Int) < n3 then 100000 else n3)
 else c23 (List.getD (PV.els (PV.fld p1 3)) (n4).toNat PV.nil) fun n5 =>
 next_w1_0 (IntKind.wrap .i64 (n3+n5)) (IntKind.wrap .i64 (n4+(1:Int)))
 else none
 else ret0 (if (100000:Int) < n3 then 100000 else n3)

theorem f23_w1b0_mem (k:Nat)(c23:Ch_1)(retF:Int→R)(NX_w1:St→R)(p1:PV)(n3:Int)(n4:Int):exec (f23_E k c23) f23_cw1 (purgeK (f23_E k c23) f23_cw1 (loopK NX_w1 (kont (f23_E k c23) f23_code [1,1,0,1,0] (endK (f23_E k c23) Try.f23 [] f23_un retF)))) (f23_hw1_0 p1 n3 n4)=f23_w1b0 c23 (fun y0=>retF y0) (fun n3 n4=>NX_w1 (f23_hw1_0 p1 n3 n4)) p1 n3 n4:=by kernel_rfl

noncomputable def f23_w1b0N (k:Nat)(c23:Ch_1)(ret0:Int→R)(next_w1_0:Int→Int→R)(p1:PV)(n3:Int)(n4:Int):R :=
 f23_w1b0 c23 ret0 next_w1_0 p1 n3 n4
theorem f23_w1b0_eq (k:Nat)(c23:Ch_1)(retF:Int→R)(NX_w1:St→R)(p1:PV)(n3:Int)(n4:Int):exec (f23_E k c23) f23_cw1 (purgeK (f23_E k c23) f23_cw1 (loopK NX_w1 (kont (f23_E k c23) f23_code [1,1,0,1,0] (endK (f23_E k c23) Try.f23 [] f23_un retF)))) (f23_hw1_0 p1 n3 n4)=f23_w1b0N k c23 (fun y0=>retF y0) (fun n3 n4=>NX_w1 (f23_hw1_0 p1 n3 n4)) p1 n3 n4 :=
 (f23_w1b0_mem k c23 retF NX_w1 p1 n3 n4)

noncomputable def f23_w1B (k:Nat)(c23:Ch_1)(ret0:Int→R)(p1:PV)(nx:Int × Int→R):Int × Int→R:=(fun s=>f23_w1b0N k c23 ret0 (fun n3 n4=>nx (n3,n4)) p1 s.1 s.2)
noncomputable def f23_w1N (k:Nat)(c23:Ch_1)(ret0:Int→R)(p1:PV)(n3:Int)(n4:Int):R:=loopR (f23_w1B k c23 ret0 p1) k (n3,n4)
theorem f23_w1_eq (k:Nat)(c23:Ch_1)(retF:Int→R)(p1:PV)(n3:Int)(n4:Int):f23_w1A k c23 retF p1 n3 n4=f23_w1N k c23 (fun y0=>retF y0) p1 n3 n4 :=
 Eq.mp (by kernel_rfl) (loop_sim (E:=(f23_E k c23)) (c:=f23_cw1) (K:=(kont (f23_E k c23) f23_code [1,1,0,1,0] (endK (f23_E k c23) Try.f23 [] f23_un retF))) (S:=Int × Int) (fun s=>f23_hw1_0 p1 s.1 s.2) (f23_w1B k c23 (fun y0=>retF y0) p1) (fun NX s=>by
  exact Eq.mp (by kernel_rfl) (f23_w1b0_eq k c23 retF NX p1 s.1 s.2)) k (n3,n4))

noncomputable def f23_e (c23:Ch_1)(ret0:Int→R)(w1:Int→Int→R)(p1:PV):R :=
 w1 1 0

theorem f23_e_mem (k:Nat)(c23:Ch_1)(retF:Int→R)(p1:PV):exec (f23_E k c23) f23_code (endK (f23_E k c23) Try.f23 [] f23_un retF) ⟨[.val 28 p1,.undef,.undef,.undef,.undef,.undef,.undef,.undef,.undef,.undef,.undef,.undef,.undef,.undef,.undef,.undef,.undef,.undef,.undef,.undef,.undef,.undef],[]⟩=f23_e c23 (fun y0=>retF y0) (fun n3 n4=>f23_w1A k c23 retF p1 n3 n4) p1:=by kernel_rfl

noncomputable def f23_N (k:Nat)(c23:Ch_1)(ret0:Int→R)(p1:PV):R :=
 f23_e c23 ret0 (fun n3 n4=>f23_w1N k c23 ret0 p1 n3 n4) p1
theorem f23_eq (k:Nat)(c23:Ch_1)(retF:Int→R)(p1:PV):exec (f23_E k c23) f23_code (endK (f23_E k c23) Try.f23 [] f23_un retF) ⟨[.val 28 p1,.undef,.undef,.undef,.undef,.undef,.undef,.undef,.undef,.undef,.undef,.undef,.undef,.undef,.undef,.undef,.undef,.undef,.undef,.undef,.undef,.undef],[]⟩=f23_N k c23 (fun y0=>retF y0) p1 :=
 (f23_e_mem k c23 retF p1).trans (by rw [show (fun n3 n4=>f23_w1A k c23 retF p1 n3 n4)=(fun n3 n4=>f23_w1N k c23 (fun y0=>retF y0) p1 n3 n4) from funext fun n3=>funext fun n4=>f23_w1_eq k c23 retF p1 n3 n4];rfl)

noncomputable def G23:Nat→PV→(Int→R)→R
 | 0,_,_=>none
 | k+1,p1,ret0=>f23_N k (G23 k) ret0 p1
theorem S23:∀ k,Snd Try.prog 23 f23_I f23_O (fun x ret=>G23 k x (fun y0=>ret y0))
 | 0=>snd_none
 | k+1=>snd_step (E:=f23_E k (G23 k)) rfl laidOut noNums (orc_ok (S23 k).o f23_D_ok orc0_ok) (f:=23) (fn:=Try.f23) (code:=f23_code) Try.func23 (by kernel_rfl) (drawsOk_of laidOut (orc_ok (S23 k).o f23_D_ok orc0_ok) mixed (by kernel_rfl)) f23_un f23_un_ok [] (fun _=>rfl)
   (fun x ret=>f23_eq k (G23 k) ret x)

noncomputable def f86_I:Int→List SV × Obs:=fun x=>([.int .i64 x],[])
noncomputable def f86_D:List SV→Obs→Option (Int)
 | [.int .i64 n1],[]=>some n1
 | _,_=>none
theorem f86_D_ok (args:List SV)(B:Obs)(x:Int)(h:f86_D args B=some x):f86_I x=(args,B):=by
 unfold f86_D at h
 split at h
 ·injection h with h;subst h;rfl
 ·cases h
noncomputable def f86_O:Int→Out:=(fun y=>([.int .i64 y],[]))
noncomputable def f86_un:Out→Option (Int)
 | ([.int .i64 y0],[])=>some y0
 | _=>none
theorem f86_un_ok (o:Out)(y:Int)(h:f86_un o=some y):o=f86_O y:=by
 unfold f86_un at h
 split at h
 ·injection h with h;subst h;rfl
 ·cases h
noncomputable def f86_msk:Nat→Option (List Nat):=fun key=> none
noncomputable def f86_C:Oracle:=orc0
noncomputable def f86_E (k:Nat):Env:={ P:=Try.prog,nilOwn:=fun d=>false,fldOwn:=fun d i=>false,ownPar:=ownPars,ownRet:=false,hpD:=fun d=>false,hpF:=hpFs,hpNew:=false,mask:=f86_msk,fuel:=k,C:=f86_C }
noncomputable def f86_code:Code:=Try.f86.body.getD .skip
noncomputable def f86_e (ret0:Int→R)(n1:Int):R :=
 bif (decide (n1=(0:Int))) then
 ret0 0
 else bif (decide (n1=(1:Int))) then
 ret0 0
 else bif (decide (n1=(2:Int))) then
 ret0 0
 else bif (decide (n1=(3:Int))) then
 ret0 2
 else bif (decide (n1=(4:Int))) then
 ret0 2
 else bif (decide (n1=(5:Int))) then
 ret0 1
 else bif (decide (n1=(6:Int))) then
 ret0 1
 else bif (decide (n1=(7:Int))) then
 ret0 1
 else ret0 (-1)

theorem f86_e_mem (k:Nat)(retF:Int→R)(n1:Int):exec (f86_E k) f86_code (endK (f86_E k) Try.f86 [] f86_un retF) ⟨[.int .i64 n1,.undef,.undef,.undef,.undef,.undef,.undef,.undef,.undef,.undef,.undef,.undef,.undef,.undef,.undef],[]⟩=f86_e (fun y0=>retF y0) n1:=by kernel_rfl

noncomputable def f86_N (k:Nat)(ret0:Int→R)(n1:Int):R :=
 f86_e ret0 n1
theorem f86_eq (k:Nat)(retF:Int→R)(n1:Int):exec (f86_E k) f86_code (endK (f86_E k) Try.f86 [] f86_un retF) ⟨[.int .i64 n1,.undef,.undef,.undef,.undef,.undef,.undef,.undef,.undef,.undef,.undef,.undef,.undef,.undef,.undef],[]⟩=f86_N k (fun y0=>retF y0) n1 :=
 (f86_e_mem k retF n1)

noncomputable def G86:Nat→Int→(Int→R)→R
 | 0,_,_=>none
 | k+1,n1,ret0=>f86_N k  ret0 n1
theorem S86:∀ k,Snd Try.prog 86 f86_I f86_O (fun x ret=>G86 k x (fun y0=>ret y0))
 | 0=>snd_none
 | k+1=>snd_step (E:=f86_E k ) rfl laidOut noNums orc0_ok (f:=86) (fn:=Try.f86) (code:=f86_code) Try.func86 (by kernel_rfl) (drawsOk_of laidOut orc0_ok mixed (by kernel_rfl)) f86_un f86_un_ok [] (fun _=>rfl)
   (fun x ret=>f86_eq k  ret x)

noncomputable def f88_I:PV × Int→List SV × Obs:=fun x=>([.val 28 x.1,.ptr 4000000 []],[(4000000,.box 3 (.int .i64 x.2))])
noncomputable def f88_D:List SV→Obs→Option (PV × Int)
 | [.val 28 p1,.ptr 4000000 []],[(4000000,.box 3 (.int .i64 n2))]=>some (p1,n2)
 | _,_=>none
theorem f88_D_ok (args:List SV)(B:Obs)(x:PV × Int)(h:f88_D args B=some x):f88_I x=(args,B):=by
 unfold f88_D at h
 split at h
 ·injection h with h;subst h;rfl
 ·cases h
noncomputable def f88_O:Bool × Int→Out:=(fun y=>([.bool y.1],[(4000000,.box 3 (.int .i64 y.2))]))
noncomputable def f88_un:Out→Option (Bool × Int)
 | ([.bool y0],[(4000000,.box 3 (.int .i64 y1))])=>some (y0,y1)
 | _=>none
theorem f88_un_ok (o:Out)(y:Bool × Int)(h:f88_un o=some y):o=f88_O y:=by
 unfold f88_un at h
 split at h
 ·injection h with h;subst h;rfl
 ·cases h
noncomputable def f102_I:PV × Int→List SV × Obs:=fun x=>([.val 26 x.1,.fn 88 [.ptr 4001000 []]],[(4001000,.box 3 (.int .i64 x.2))])
noncomputable def f102_D:List SV→Obs→Option (PV × Int)
 | [.val 26 p1,.fn 88 [.ptr 4001000 []]],[(4001000,.box 3 (.int .i64 n2))]=>some (p1,n2)
 | _,_=>none
theorem f102_D_ok (args:List SV)(B:Obs)(x:PV × Int)(h:f102_D args B=some x):f102_I x=(args,B):=by
 unfold f102_D at h
 split at h
 ·injection h with h;subst h;rfl
 ·cases h
noncomputable def f102_O:Int × Int→Out:=(fun y=>([.int .i64 y.1],[(4001000,.box 3 (.int .i64 y.2))]))
noncomputable def f102_un:Out→Option (Int × Int)
 | ([.int .i64 y0],[(4001000,.box 3 (.int .i64 y1))])=>some (y0,y1)
 | _=>none
theorem f102_un_ok (o:Out)(y:Int × Int)(h:f102_un o=some y):o=f102_O y:=by
 unfold f102_un at h
 split at h
 ·injection h with h;subst h;rfl
 ·cases h
noncomputable def f87_I:PV × Int→List SV × Obs:=fun x=>([.val 26 x.1,.fn 88 [.ptr 4001000 []]],[(4001000,.box 3 (.int .i64 x.2))])
noncomputable def f87_D:List SV→Obs→Option (PV × Int)
 | [.val 26 p1,.fn 88 [.ptr 4001000 []]],[(4001000,.box 3 (.int .i64 n2))]=>some (p1,n2)
 | _,_=>none
theorem f87_D_ok (args:List SV)(B:Obs)(x:PV × Int)(h:f87_D args B=some x):f87_I x=(args,B):=by
 unfold f87_D at h
 split at h
 ·injection h with h;subst h;rfl
 ·cases h
noncomputable def f87_O:Bool × Int→Out:=(fun y=>([.bool y.1],[(4001000,.box 3 (.int .i64 y.2))]))
noncomputable def f87_un:Out→Option (Bool × Int)
 | ([.bool y0],[(4001000,.box 3 (.int .i64 y1))])=>some (y0,y1)
 | _=>none
theorem f87_un_ok (o:Out)(y:Bool × Int)(h:f87_un o=some y):o=f87_O y:=by
 unfold f87_un at h
 split at h
 ·injection h with h;subst h;rfl
 ·cases h
noncomputable def f62_I:PV × Int→List SV × Obs:=fun x=>([.val 28 x.1,.int .i64 x.2],[])
noncomputable def f62_D:List SV→Obs→Option (PV × Int)
 | [.val 28 p1,.int .i64 n2],[]=>some (p1,n2)
 | _,_=>none
theorem f62_D_ok (args:List SV)(B:Obs)(x:PV × Int)(h:f62_D args B=some x):f62_I x=(args,B):=by
 unfold f62_D at h
 split at h
 ·injection h with h;subst h;rfl
 ·cases h
noncomputable def f62_O:Bool→Out:=(fun y=>([.bool y],[]))
noncomputable def f62_un:Out→Option (Bool)
 | ([.bool y0],[])=>some y0
 | _=>none
theorem f62_un_ok (o:Out)(y:Bool)(h:f62_un o=some y):o=f62_O y:=by
 unfold f62_un at h
 split at h
 ·injection h with h;subst h;rfl
 ·cases h
noncomputable def f88_msk:Nat→Option (List Nat):=fun key=> none
noncomputable def f88_C (c62:Ch_2):Oracle:=orc 62 f62_D f62_O (fun x ret=>c62 x.1 x.2 (fun y0=>ret y0)) <| orc0
noncomputable def f88_E (k:Nat)(c62:Ch_2):Env:={ P:=Try.prog,nilOwn:=fun d=>false,fldOwn:=fun d i=>false,ownPar:=ownPars,ownRet:=false,hpD:=fun d=>false,hpF:=hpFs,hpNew:=false,mask:=f88_msk,fuel:=k,C:=f88_C c62 }
noncomputable def f88_code:Code:=Try.f88.body.getD .skip
noncomputable def f88_e (c62:Ch_2)(ret0:Bool→Int→R)(p1:PV)(n2:Int):R :=
 c62 p1 (IntKind.wrap .i64 (n2 - (1:Int))) fun b3 =>
 ret0 (!b3) n2

theorem f88_e_mem (k:Nat)(c62:Ch_2)(retF:Bool × Int→R)(p1:PV)(n2:Int):exec (f88_E k c62) f88_code (endK (f88_E k c62) Try.f88 [4000000] f88_un retF) ⟨[.val 28 p1,.ptr 4000000 [],.undef,.undef,.undef,.undef,.undef,.undef,.undef],[(4000000,.box 3 (.int .i64 n2))]⟩=f88_e c62 (fun y0 y1=>retF (y0,y1)) p1 n2:=by kernel_rfl

noncomputable def f88_N (k:Nat)(c62:Ch_2)(ret0:Bool→Int→R)(p1:PV)(n2:Int):R :=
 f88_e c62 ret0 p1 n2
theorem f88_eq (k:Nat)(c62:Ch_2)(retF:Bool × Int→R)(p1:PV)(n2:Int):exec (f88_E k c62) f88_code (endK (f88_E k c62) Try.f88 [4000000] f88_un retF) ⟨[.val 28 p1,.ptr 4000000 [],.undef,.undef,.undef,.undef,.undef,.undef,.undef],[(4000000,.box 3 (.int .i64 n2))]⟩=f88_N k c62 (fun y0 y1=>retF (y0,y1)) p1 n2 :=
 (f88_e_mem k c62 retF p1 n2)

noncomputable def f102_msk:Nat→Option (List Nat):=fun key=>bif key==6 then some [0,1,7,8] else none
noncomputable def f102_C (c88:Ch_3):Oracle:=orc 88 f88_D f88_O (fun x ret=>c88 x.1 x.2 (fun y0 y1=>ret (y0,y1))) <| orc0
noncomputable def f102_E (k:Nat)(c88:Ch_3):Env:={ P:=Try.prog,nilOwn:=fun d=>false,fldOwn:=fun d i=>false,ownPar:=ownPars,ownRet:=false,hpD:=fun d=>false,hpF:=hpFs,hpNew:=false,mask:=f102_msk,fuel:=k,C:=f102_C c88 }
noncomputable def f102_code:Code:=Try.f102.body.getD .skip
noncomputable def f102_cw1:Code:=subC f102_code [1,0,1,0,0]
noncomputable def f102_hw1_0 (p1:PV)(n5:Int)(n6:Int):St:=⟨[.val 26 p1,.fn 88 [.ptr 4001000 []],.dead,.dead,.dead,.dead,.dead,.int .i64 (List.length (PV.els p1):Int),.int .i64 n5,.dead,.dead,.dead,.dead,.dead,.dead,.dead,.dead,.dead,.dead],[(4001000,.box 3 (.int .i64 n6))]⟩
noncomputable def f102_w1A (k:Nat)(c88:Ch_3)(retF:Int × Int→R)(p1:PV)(n5:Int)(n6:Int):R:=loopM (f102_E k c88) f102_cw1 (kont (f102_E k c88) f102_code [1,0,1,0] (endK (f102_E k c88) Try.f102 [4001000] f102_un retF)) k (f102_hw1_0 p1 n5 n6)
noncomputable def f102_w1b0 (c88:Ch_3)(ret0:Int→Int→R)(next_w1_0:Int→Int→R)(p1:PV)(n5:Int)(n6:Int):R :=
 bif (decide (n5 < (List.length (PV.els p1):Int))) then
 bif (true&&decide ((0:Int)≤n5)&&decide (n5 < (List.length (PV.els p1):Int))) then
 c88 (List.getD (PV.els p1) (n5).toNat PV.nil) n6 fun b7 n8 =>
 bif b7 then
 ret0 n5 n8
 else next_w1_0 (IntKind.wrap .i64 (n5+(1:Int))) n8
 else none
 else ret0 (-1) n6

theorem f102_w1b0_mem (k:Nat)(c88:Ch_3)(retF:Int × Int→R)(NX_w1:St→R)(p1:PV)(n5:Int)(n6:Int):exec (f102_E k c88) f102_cw1 (purgeK (f102_E k c88) f102_cw1 (loopK NX_w1 (kont (f102_E k c88) f102_code [1,0,1,0] (endK (f102_E k c88) Try.f102 [4001000] f102_un retF)))) (f102_hw1_0 p1 n5 n6)=f102_w1b0 c88 (fun y0 y1=>retF (y0,y1)) (fun n5 n6=>NX_w1 (f102_hw1_0 p1 n5 n6)) p1 n5 n6:=by kernel_rfl

noncomputable def f102_w1b0N (k:Nat)(c88:Ch_3)(ret0:Int→Int→R)(next_w1_0:Int→Int→R)(p1:PV)(n5:Int)(n6:Int):R :=
 f102_w1b0 c88 ret0 next_w1_0 p1 n5 n6
theorem f102_w1b0_eq (k:Nat)(c88:Ch_3)(retF:Int × Int→R)(NX_w1:St→R)(p1:PV)(n5:Int)(n6:Int):exec (f102_E k c88) f102_cw1 (purgeK (f102_E k c88) f102_cw1 (loopK NX_w1 (kont (f102_E k c88) f102_code [1,0,1,0] (endK (f102_E k c88) Try.f102 [4001000] f102_un retF)))) (f102_hw1_0 p1 n5 n6)=f102_w1b0N k c88 (fun y0 y1=>retF (y0,y1)) (fun n5 n6=>NX_w1 (f102_hw1_0 p1 n5 n6)) p1 n5 n6 :=
 (f102_w1b0_mem k c88 retF NX_w1 p1 n5 n6)

noncomputable def f102_w1B (k:Nat)(c88:Ch_3)(ret0:Int→Int→R)(p1:PV)(nx:Int × Int→R):Int × Int→R:=(fun s=>f102_w1b0N k c88 ret0 (fun n5 n6=>nx (n5,n6)) p1 s.1 s.2)
noncomputable def f102_w1N (k:Nat)(c88:Ch_3)(ret0:Int→Int→R)(p1:PV)(n5:Int)(n6:Int):R:=loopR (f102_w1B k c88 ret0 p1) k (n5,n6)
theorem f102_w1_eq (k:Nat)(c88:Ch_3)(retF:Int × Int→R)(p1:PV)(n5:Int)(n6:Int):f102_w1A k c88 retF p1 n5 n6=f102_w1N k c88 (fun y0 y1=>retF (y0,y1)) p1 n5 n6 :=
 Eq.mp (by kernel_rfl) (loop_sim (E:=(f102_E k c88)) (c:=f102_cw1) (K:=(kont (f102_E k c88) f102_code [1,0,1,0] (endK (f102_E k c88) Try.f102 [4001000] f102_un retF))) (S:=Int × Int) (fun s=>f102_hw1_0 p1 s.1 s.2) (f102_w1B k c88 (fun y0 y1=>retF (y0,y1)) p1) (fun NX s=>by
  exact Eq.mp (by kernel_rfl) (f102_w1b0_eq k c88 retF NX p1 s.1 s.2)) k (n5,n6))

noncomputable def f102_e (c88:Ch_3)(ret0:Int→Int→R)(w1:Int→Int→R)(p1:PV)(n2:Int):R :=
 w1 0 n2

theorem f102_e_mem (k:Nat)(c88:Ch_3)(retF:Int × Int→R)(p1:PV)(n2:Int):exec (f102_E k c88) f102_code (endK (f102_E k c88) Try.f102 [4001000] f102_un retF) ⟨[.val 26 p1,.fn 88 [.ptr 4001000 []],.undef,.undef,.undef,.undef,.undef,.undef,.undef,.undef,.undef,.undef,.undef,.undef,.undef,.undef,.undef,.undef,.undef],[(4001000,.box 3 (.int .i64 n2))]⟩=f102_e c88 (fun y0 y1=>retF (y0,y1)) (fun n5 n6=>f102_w1A k c88 retF p1 n5 n6) p1 n2:=by kernel_rfl

noncomputable def f102_N (k:Nat)(c88:Ch_3)(ret0:Int→Int→R)(p1:PV)(n2:Int):R :=
 f102_e c88 ret0 (fun n5 n6=>f102_w1N k c88 ret0 p1 n5 n6) p1 n2
theorem f102_eq (k:Nat)(c88:Ch_3)(retF:Int × Int→R)(p1:PV)(n2:Int):exec (f102_E k c88) f102_code (endK (f102_E k c88) Try.f102 [4001000] f102_un retF) ⟨[.val 26 p1,.fn 88 [.ptr 4001000 []],.undef,.undef,.undef,.undef,.undef,.undef,.undef,.undef,.undef,.undef,.undef,.undef,.undef,.undef,.undef,.undef,.undef],[(4001000,.box 3 (.int .i64 n2))]⟩=f102_N k c88 (fun y0 y1=>retF (y0,y1)) p1 n2 :=
 (f102_e_mem k c88 retF p1 n2).trans (by rw [show (fun n5 n6=>f102_w1A k c88 retF p1 n5 n6)=(fun n5 n6=>f102_w1N k c88 (fun y0 y1=>retF (y0,y1)) p1 n5 n6) from funext fun n5=>funext fun n6=>f102_w1_eq k c88 retF p1 n5 n6];rfl)

noncomputable def f87_msk:Nat→Option (List Nat):=fun key=> none
noncomputable def f87_C (c102:Ch_4):Oracle:=orc 102 f102_D f102_O (fun x ret=>c102 x.1 x.2 (fun y0 y1=>ret (y0,y1))) <| orc0
noncomputable def f87_E (k:Nat)(c102:Ch_4):Env:={ P:=Try.prog,nilOwn:=fun d=>false,fldOwn:=fun d i=>false,ownPar:=ownPars,ownRet:=false,hpD:=fun d=>false,hpF:=hpFs,hpNew:=false,mask:=f87_msk,fuel:=k,C:=f87_C c102 }
noncomputable def f87_code:Code:=Try.f87.body.getD .skip
noncomputable def f87_e (c102:Ch_4)(ret0:Bool→Int→R)(p1:PV)(n2:Int):R :=
 c102 p1 n2 fun n3 n4 =>
 ret0 (decide ((0:Int)≤n3)) n4

theorem f87_e_mem (k:Nat)(c102:Ch_4)(retF:Bool × Int→R)(p1:PV)(n2:Int):exec (f87_E k c102) f87_code (endK (f87_E k c102) Try.f87 [4001000] f87_un retF) ⟨[.val 26 p1,.fn 88 [.ptr 4001000 []],.undef,.undef,.undef,.undef,.undef,.undef,.undef],[(4001000,.box 3 (.int .i64 n2))]⟩=f87_e c102 (fun y0 y1=>retF (y0,y1)) p1 n2:=by kernel_rfl

noncomputable def f87_N (k:Nat)(c102:Ch_4)(ret0:Bool→Int→R)(p1:PV)(n2:Int):R :=
 f87_e c102 ret0 p1 n2
theorem f87_eq (k:Nat)(c102:Ch_4)(retF:Bool × Int→R)(p1:PV)(n2:Int):exec (f87_E k c102) f87_code (endK (f87_E k c102) Try.f87 [4001000] f87_un retF) ⟨[.val 26 p1,.fn 88 [.ptr 4001000 []],.undef,.undef,.undef,.undef,.undef,.undef,.undef],[(4001000,.box 3 (.int .i64 n2))]⟩=f87_N k c102 (fun y0 y1=>retF (y0,y1)) p1 n2 :=
 (f87_e_mem k c102 retF p1 n2)

noncomputable def f62_msk:Nat→Option (List Nat):=fun key=> none
noncomputable def f62_C (c86:Ch_5)(c87:Ch_3):Oracle:=orc 86 f86_D f86_O (fun x ret=>c86 x (fun y0=>ret y0)) <| orc 87 f87_D f87_O (fun x ret=>c87 x.1 x.2 (fun y0 y1=>ret (y0,y1))) <| orc0
noncomputable def f62_E (k:Nat)(c86:Ch_5)(c87:Ch_3):Env:={ P:=Try.prog,nilOwn:=fun d=>false,fldOwn:=fun d i=>false,ownPar:=ownPars,ownRet:=false,hpD:=fun d=>false,hpF:=hpFs,hpNew:=false,mask:=f62_msk,fuel:=k,C:=f62_C c86 c87 }
noncomputable def f62_code:Code:=Try.f62.body.getD .skip
noncomputable def f62_e (c86:Ch_5)(c87:Ch_3)(ret0:Bool→R)(p1:PV)(n2:Int):R :=
 bif ((decide (n2 < (1:Int)))==false) then
 c86 (PV.num (PV.fld p1 0)) fun n3 =>
 bif ((!(decide ((List.length (PV.els (PV.fld p1 3)):Int)=n3)))==false) then
 bif ((!(decide ((PV.num (PV.fld p1 0))=(2:Int))))==true) then
 bif (!(PV.beq (PV.fld p1 1) (PV.agg [(PV.int 0),(PV.int 0),(PV.int 0),(PV.int 0)]))) then
 ret0 false
 else bif ((decide ((PV.num (PV.fld p1 0))=(6:Int)))==true) then
 bif ((decide ((PV.num (PV.fld p1 2)) < (1:Int)))==false) then
 bif ((decide ((32:Int) < (PV.num (PV.fld p1 2))))==false) then
 bif ((!(decide ((PV.num (PV.fld p1 0))=(6:Int))))==true) then
 bif (!(decide ((PV.num (PV.fld p1 2))=(0:Int)))) then
 ret0 false
 else c87 (PV.fld p1 3) n2 fun b4 n5 =>
 ret0 (!b4)
 else c87 (PV.fld p1 3) n2 fun b6 n7 =>
 ret0 (!b6)
 else ret0 false
 else ret0 false
 else bif ((!(decide ((PV.num (PV.fld p1 0))=(6:Int))))==true) then
 bif (!(decide ((PV.num (PV.fld p1 2))=(0:Int)))) then
 ret0 false
 else c87 (PV.fld p1 3) n2 fun b8 n9 =>
 ret0 (!b8)
 else c87 (PV.fld p1 3) n2 fun b10 n11 =>
 ret0 (!b10)
 else bif ((decide ((PV.num (PV.fld p1 0))=(6:Int)))==true) then
 bif ((decide ((PV.num (PV.fld p1 2)) < (1:Int)))==false) then
 bif ((decide ((32:Int) < (PV.num (PV.fld p1 2))))==false) then
 bif ((!(decide ((PV.num (PV.fld p1 0))=(6:Int))))==true) then
 bif (!(decide ((PV.num (PV.fld p1 2))=(0:Int)))) then
 ret0 false
 else c87 (PV.fld p1 3) n2 fun b12 n13 =>
 ret0 (!b12)
 else c87 (PV.fld p1 3) n2 fun b14 n15 =>
 ret0 (!b14)
 else ret0 false
 else ret0 false
 else bif ((!(decide ((PV.num (PV.fld p1 0))=(6:Int))))==true) then
 bif (!(decide ((PV.num (PV.fld p1 2))=(0:Int)))) then
 ret0 false
 else c87 (PV.fld p1 3) n2 fun b16 n17 =>
 ret0 (!b16)
 else c87 (PV.fld p1 3) n2 fun b18 n19 =>
 ret0 (!b18)
 else ret0 false
 else ret0 false

theorem f62_e_mem (k:Nat)(c86:Ch_5)(c87:Ch_3)(retF:Bool→R)(p1:PV)(n2:Int):exec (f62_E k c86 c87) f62_code (endK (f62_E k c86 c87) Try.f62 [] f62_un retF) ⟨[.val 28 p1,.int .i64 n2,.undef,.undef,.undef,.undef,.undef,.undef,.undef,.undef,.undef,.undef,.undef,.undef,.undef,.undef,.undef,.undef,.undef,.undef,.undef,.undef,.undef,.undef,.undef,.undef,.undef,.undef,.undef,.undef,.undef,.undef,.undef,.undef,.undef,.undef,.undef,.undef,.undef,.undef,.undef,.undef,.undef,.undef,.undef,.undef,.undef,.undef,.undef,.undef,.undef,.undef,.undef,.undef,.undef],[]⟩=f62_e c86 c87 (fun y0=>retF y0) p1 n2:=by kernel_rfl

noncomputable def f62_N (k:Nat)(c86:Ch_5)(c87:Ch_3)(ret0:Bool→R)(p1:PV)(n2:Int):R :=
 f62_e c86 c87 ret0 p1 n2
theorem f62_eq (k:Nat)(c86:Ch_5)(c87:Ch_3)(retF:Bool→R)(p1:PV)(n2:Int):exec (f62_E k c86 c87) f62_code (endK (f62_E k c86 c87) Try.f62 [] f62_un retF) ⟨[.val 28 p1,.int .i64 n2,.undef,.undef,.undef,.undef,.undef,.undef,.undef,.undef,.undef,.undef,.undef,.undef,.undef,.undef,.undef,.undef,.undef,.undef,.undef,.undef,.undef,.undef,.undef,.undef,.undef,.undef,.undef,.undef,.undef,.undef,.undef,.undef,.undef,.undef,.undef,.undef,.undef,.undef,.undef,.undef,.undef,.undef,.undef,.undef,.undef,.undef,.undef,.undef,.undef,.undef,.undef,.undef,.undef],[]⟩=f62_N k c86 c87 (fun y0=>retF y0) p1 n2 :=
 (f62_e_mem k c86 c87 retF p1 n2)

mutual
noncomputable def G88:Nat→PV→Int→(Bool→Int→R)→R
 | 0,_,_,_=>none
 | k+1,p1,n2,ret0=>f88_N k (G62 k) ret0 p1 n2
noncomputable def G102:Nat→PV→Int→(Int→Int→R)→R
 | 0,_,_,_=>none
 | k+1,p1,n2,ret0=>f102_N k (G88 k) ret0 p1 n2
noncomputable def G87:Nat→PV→Int→(Bool→Int→R)→R
 | 0,_,_,_=>none
 | k+1,p1,n2,ret0=>f87_N k (G102 k) ret0 p1 n2
noncomputable def G62:Nat→PV→Int→(Bool→R)→R
 | 0,_,_,_=>none
 | k+1,p1,n2,ret0=>f62_N k (G86 k) (G87 k) ret0 p1 n2
end
mutual
theorem S88:∀ k,Snd Try.prog 88 f88_I f88_O (fun x ret=>G88 k x.1 x.2 (fun y0 y1=>ret (y0,y1)))
 | 0=>snd_none
 | k+1=>snd_step (E:=f88_E k (G62 k)) rfl laidOut noNums (orc_ok (S62 k).o f62_D_ok orc0_ok) (f:=88) (fn:=Try.f88) (code:=f88_code) Try.func88 (by kernel_rfl) (drawsOk_of laidOut (orc_ok (S62 k).o f62_D_ok orc0_ok) mixed (by kernel_rfl)) f88_un f88_un_ok [4000000] (fun _=>rfl)
   (fun x ret=>f88_eq k (G62 k) ret x.1 x.2)
theorem S102:∀ k,Snd Try.prog 102 f102_I f102_O (fun x ret=>G102 k x.1 x.2 (fun y0 y1=>ret (y0,y1)))
 | 0=>snd_none
 | k+1=>snd_step (E:=f102_E k (G88 k)) rfl laidOut noNums (orc_ok (S88 k).o f88_D_ok orc0_ok) (f:=102) (fn:=Try.f102) (code:=f102_code) Try.func102 (by kernel_rfl) (drawsOk_of laidOut (orc_ok (S88 k).o f88_D_ok orc0_ok) mixed (by kernel_rfl)) f102_un f102_un_ok [4001000] (fun _=>rfl)
   (fun x ret=>f102_eq k (G88 k) ret x.1 x.2)
theorem S87:∀ k,Snd Try.prog 87 f87_I f87_O (fun x ret=>G87 k x.1 x.2 (fun y0 y1=>ret (y0,y1)))
 | 0=>snd_none
 | k+1=>snd_step (E:=f87_E k (G102 k)) rfl laidOut noNums (orc_ok (S102 k).o f102_D_ok orc0_ok) (f:=87) (fn:=Try.f87) (code:=f87_code) Try.func87 (by kernel_rfl) (drawsOk_of laidOut (orc_ok (S102 k).o f102_D_ok orc0_ok) mixed (by kernel_rfl)) f87_un f87_un_ok [4001000] (fun _=>rfl)
   (fun x ret=>f87_eq k (G102 k) ret x.1 x.2)
theorem S62:∀ k,Snd Try.prog 62 f62_I f62_O (fun x ret=>G62 k x.1 x.2 (fun y0=>ret y0))
 | 0=>snd_none
 | k+1=>snd_step (E:=f62_E k (G86 k) (G87 k)) rfl laidOut noNums (orc_ok (S86 k).o f86_D_ok (orc_ok (S87 k).o f87_D_ok orc0_ok)) (f:=62) (fn:=Try.f62) (code:=f62_code) Try.func62 (by kernel_rfl) (drawsOk_of laidOut (orc_ok (S86 k).o f86_D_ok (orc_ok (S87 k).o f87_D_ok orc0_ok)) mixed (by kernel_rfl)) f62_un f62_un_ok [] (fun _=>rfl)
   (fun x ret=>f62_eq k (G86 k) (G87 k) ret x.1 x.2)
end

noncomputable def f31_I:PV→List SV × Obs:=fun x=>([.val 28 x],[])
noncomputable def f31_D:List SV→Obs→Option (PV)
 | [.val 28 p1],[]=>some p1
 | _,_=>none
theorem f31_D_ok (args:List SV)(B:Obs)(x:PV)(h:f31_D args B=some x):f31_I x=(args,B):=by
 unfold f31_D at h
 split at h
 ·injection h with h;subst h;rfl
 ·cases h
noncomputable def f31_O:Bool→Out:=(fun y=>([.bool y],[]))
noncomputable def f31_un:Out→Option (Bool)
 | ([.bool y0],[])=>some y0
 | _=>none
theorem f31_un_ok (o:Out)(y:Bool)(h:f31_un o=some y):o=f31_O y:=by
 unfold f31_un at h
 split at h
 ·injection h with h;subst h;rfl
 ·cases h
noncomputable def f31_msk:Nat→Option (List Nat):=fun key=> none
noncomputable def f31_C (c23:Ch_1)(c62:Ch_2):Oracle:=orc 23 f23_D f23_O (fun x ret=>c23 x (fun y0=>ret y0)) <| orc 62 f62_D f62_O (fun x ret=>c62 x.1 x.2 (fun y0=>ret y0)) <| orc0
noncomputable def f31_E (k:Nat)(c23:Ch_1)(c62:Ch_2):Env:={ P:=Try.prog,nilOwn:=fun d=>false,fldOwn:=fun d i=>false,ownPar:=ownPars,ownRet:=false,hpD:=fun d=>false,hpF:=hpFs,hpNew:=false,mask:=f31_msk,fuel:=k,C:=f31_C c23 c62 }
noncomputable def f31_code:Code:=Try.f31.body.getD .skip
noncomputable def f31_e (c23:Ch_1)(c62:Ch_2)(ret0:Bool→R)(p1:PV):R :=
 c23 p1 fun n2 =>
 bif ((decide (n2≤(2000:Int)))==true) then
 c62 p1 8000 fun b3 =>
 ret0 b3
 else ret0 false

theorem f31_e_mem (k:Nat)(c23:Ch_1)(c62:Ch_2)(retF:Bool→R)(p1:PV):exec (f31_E k c23 c62) f31_code (endK (f31_E k c23 c62) Try.f31 [] f31_un retF) ⟨[.val 28 p1,.undef,.undef,.undef,.undef,.undef,.undef,.undef,.undef,.undef],[]⟩=f31_e c23 c62 (fun y0=>retF y0) p1:=by kernel_rfl

noncomputable def f31_N (k:Nat)(c23:Ch_1)(c62:Ch_2)(ret0:Bool→R)(p1:PV):R :=
 f31_e c23 c62 ret0 p1
theorem f31_eq (k:Nat)(c23:Ch_1)(c62:Ch_2)(retF:Bool→R)(p1:PV):exec (f31_E k c23 c62) f31_code (endK (f31_E k c23 c62) Try.f31 [] f31_un retF) ⟨[.val 28 p1,.undef,.undef,.undef,.undef,.undef,.undef,.undef,.undef,.undef],[]⟩=f31_N k c23 c62 (fun y0=>retF y0) p1 :=
 (f31_e_mem k c23 c62 retF p1)

noncomputable def G31:Nat→PV→(Bool→R)→R
 | 0,_,_=>none
 | k+1,p1,ret0=>f31_N k (G23 k) (G62 k) ret0 p1
theorem S31:∀ k,Snd Try.prog 31 f31_I f31_O (fun x ret=>G31 k x (fun y0=>ret y0))
 | 0=>snd_none
 | k+1=>snd_step (E:=f31_E k (G23 k) (G62 k)) rfl laidOut noNums (orc_ok (S23 k).o f23_D_ok (orc_ok (S62 k).o f62_D_ok orc0_ok)) (f:=31) (fn:=Try.f31) (code:=f31_code) Try.func31 (by kernel_rfl) (drawsOk_of laidOut (orc_ok (S23 k).o f23_D_ok (orc_ok (S62 k).o f62_D_ok orc0_ok)) mixed (by kernel_rfl)) f31_un f31_un_ok [] (fun _=>rfl)
   (fun x ret=>f31_eq k (G23 k) (G62 k) ret x)

noncomputable def f49_I:PV × PV→List SV × Obs:=fun x=>([.val 28 x.1,.val 36 x.2],[])
noncomputable def f49_D:List SV→Obs→Option (PV × PV)
 | [.val 28 p1,.val 36 p2],[]=>some (p1,p2)
 | _,_=>none
theorem f49_D_ok (args:List SV)(B:Obs)(x:PV × PV)(h:f49_D args B=some x):f49_I x=(args,B):=by
 unfold f49_D at h
 split at h
 ·injection h with h;subst h;rfl
 ·cases h
noncomputable def f49_O:Int→Out:=(fun y=>([.int .i64 y],[]))
noncomputable def f49_un:Out→Option (Int)
 | ([.int .i64 y0],[])=>some y0
 | _=>none
theorem f49_un_ok (o:Out)(y:Int)(h:f49_un o=some y):o=f49_O y:=by
 unfold f49_un at h
 split at h
 ·injection h with h;subst h;rfl
 ·cases h
noncomputable def f49_msk:Nat→Option (List Nat):=fun key=> none
noncomputable def f49_C (c23:Ch_1)(c31:Ch_6):Oracle:=orc 23 f23_D f23_O (fun x ret=>c23 x (fun y0=>ret y0)) <| orc 31 f31_D f31_O (fun x ret=>c31 x (fun y0=>ret y0)) <| orc0
noncomputable def f49_E (k:Nat)(c23:Ch_1)(c31:Ch_6):Env:={ P:=Try.prog,nilOwn:=fun d=>false,fldOwn:=fun d i=>false,ownPar:=ownPars,ownRet:=false,hpD:=fun d=>false,hpF:=hpFs,hpNew:=false,mask:=f49_msk,fuel:=k,C:=f49_C c23 c31 }
noncomputable def f49_code:Code:=Try.f49.body.getD .skip
noncomputable def f49_e (c23:Ch_1)(c31:Ch_6)(ret0:Int→R)(p1:PV)(p2:PV):R :=
 c31 p1 fun b3 =>
 bif ((!b3)==false) then
 bif (decide ((256:Int) < (List.length (PV.els p2):Int))) then
 ret0 1
 else c23 p1 fun n4 =>
 let n5:Int:=(IntKind.wrap .i64 ((IntKind.wrap .i64 (n4 * (IntKind.wrap .i64 ((List.length (PV.els p2):Int)+(1:Int))))) * (IntKind.wrap .i64 ((List.length (PV.els p2):Int)+(1:Int)))))
 bif (decide ((4000000:Int) < n5)) then
 ret0 4
 else ret0 0
 else ret0 1

theorem f49_e_mem (k:Nat)(c23:Ch_1)(c31:Ch_6)(retF:Int→R)(p1:PV)(p2:PV):exec (f49_E k c23 c31) f49_code (endK (f49_E k c23 c31) Try.f49 [] f49_un retF) ⟨[.val 28 p1,.val 36 p2,.undef,.undef,.undef,.undef,.undef,.undef,.undef,.undef,.undef,.undef,.undef,.undef,.undef,.undef,.undef,.undef,.undef,.undef,.undef,.undef,.undef,.undef,.undef,.undef],[]⟩=f49_e c23 c31 (fun y0=>retF y0) p1 p2:=by kernel_rfl

noncomputable def f49_N (k:Nat)(c23:Ch_1)(c31:Ch_6)(ret0:Int→R)(p1:PV)(p2:PV):R :=
 f49_e c23 c31 ret0 p1 p2
theorem f49_eq (k:Nat)(c23:Ch_1)(c31:Ch_6)(retF:Int→R)(p1:PV)(p2:PV):exec (f49_E k c23 c31) f49_code (endK (f49_E k c23 c31) Try.f49 [] f49_un retF) ⟨[.val 28 p1,.val 36 p2,.undef,.undef,.undef,.undef,.undef,.undef,.undef,.undef,.undef,.undef,.undef,.undef,.undef,.undef,.undef,.undef,.undef,.undef,.undef,.undef,.undef,.undef,.undef,.undef],[]⟩=f49_N k c23 c31 (fun y0=>retF y0) p1 p2 :=
 (f49_e_mem k c23 c31 retF p1 p2)

noncomputable def G49:Nat→PV→PV→(Int→R)→R
 | 0,_,_,_=>none
 | k+1,p1,p2,ret0=>f49_N k (G23 k) (G31 k) ret0 p1 p2
theorem S49:∀ k,Snd Try.prog 49 f49_I f49_O (fun x ret=>G49 k x.1 x.2 (fun y0=>ret y0))
 | 0=>snd_none
 | k+1=>snd_step (E:=f49_E k (G23 k) (G31 k)) rfl laidOut noNums (orc_ok (S23 k).o f23_D_ok (orc_ok (S31 k).o f31_D_ok orc0_ok)) (f:=49) (fn:=Try.f49) (code:=f49_code) Try.func49 (by kernel_rfl) (drawsOk_of laidOut (orc_ok (S23 k).o f23_D_ok (orc_ok (S31 k).o f31_D_ok orc0_ok)) mixed (by kernel_rfl)) f49_un f49_un_ok [] (fun _=>rfl)
   (fun x ret=>f49_eq k (G23 k) (G31 k) ret x.1 x.2)

noncomputable def f72_I:PV × PV × (List HE)→List SV × Obs:=fun x=>([.hval 87 x.1,.val 28 x.2.1],[(1000000000000,.hp x.2.2)])
noncomputable def f72_D:List SV→Obs→Option (PV × PV × (List HE))
 | [.hval 87 p1,.val 28 p2],[(1000000000000,.hp h3)]=>some (p1,p2,h3)
 | _,_=>none
theorem f72_D_ok (args:List SV)(B:Obs)(x:PV × PV × (List HE))(h:f72_D args B=some x):f72_I x=(args,B):=by
 unfold f72_D at h
 split at h
 ·injection h with h;subst h;rfl
 ·cases h
noncomputable def f72_O:Int × (List HE)→Out:=(fun y=>([.int .i64 y.1],[(1000000000000,.hp y.2)]))
noncomputable def f72_un:Out→Option (Int × (List HE))
 | ([.int .i64 y0],[(1000000000000,.hp y1)])=>some (y0,y1)
 | _=>none
theorem f72_un_ok (o:Out)(y:Int × (List HE))(h:f72_un o=some y):o=f72_O y:=by
 unfold f72_un at h
 split at h
 ·injection h with h;subst h;rfl
 ·cases h
noncomputable def f72_msk:Nat→Option (List Nat):=fun key=>bif key==12 then some [0,5,26,27,28] else none
noncomputable def f72_C (c72:Ch_7):Oracle:=orc 72 f72_D f72_O (fun x ret=>c72 x.1 x.2.1 x.2.2 (fun y0 y1=>ret (y0,y1))) <| orc0
noncomputable def f72_E (k:Nat)(c72:Ch_7):Env:={ P:=Try.prog,nilOwn:=fun d=>false,fldOwn:=fun d i=>false,ownPar:=ownPars,ownRet:=false,hpD:=fun d=>d==20 || d==21 || d==49,hpF:=hpFs,hpNew:=false,mask:=f72_msk,fuel:=k,C:=f72_C c72 }
noncomputable def f72_code:Code:=Try.f72.body.getD .skip
noncomputable def f72_cw1:Code:=subC f72_code [1,1,1,0,1,0,0]
noncomputable def f72_hw1_0 (p1:PV)(p2:PV)(h3:List HE)(n13:Int)(h14:List HE):St:=⟨[.hval 87 p1,.dead,.dead,.dead,.dead,.int .i64 ((PV.rN (PV.fld (hvarOf h3 (PV.rI p1)) 0)):Int),.dead,.dead,.dead,.dead,.dead,.dead,.dead,.dead,.dead,.dead,.dead,.dead,.dead,.dead,.dead,.dead,.dead,.dead,.dead,.dead,.val 26 (PV.fld p2 3),.int .i64 (List.length (PV.els (PV.fld p2 3)):Int),.int .i64 n13,.dead,.dead,.dead,.dead,.dead,.dead,.dead,.dead,.dead,.dead,.dead,.dead,.dead,.dead,.dead,.dead,.dead,.dead,.dead,.dead,.dead,.dead,.dead,.dead,.dead,.dead],[(1000000000000,.hp h14)]⟩
noncomputable def f72_w1A (k:Nat)(c72:Ch_7)(retF:Int × (List HE)→R)(p1:PV)(p2:PV)(h3:List HE)(n13:Int)(h14:List HE):R:=loopM (f72_E k c72) f72_cw1 (kont (f72_E k c72) f72_code [1,1,1,0,1,0] (endK (f72_E k c72) Try.f72 [1000000000000] f72_un retF)) k (f72_hw1_0 p1 p2 h3 n13 h14)
noncomputable def f72_w1b0 (c72:Ch_7)(ret0:Int→(List HE)→R)(next_w1_0:Int→(List HE)→R)(p1:PV)(p2:PV)(h3:List HE)(n13:Int)(h14:List HE):R :=
 bif (decide (n13 < (List.length (PV.els (PV.fld p2 3)):Int))) then
 bif (true&&decide ((0:Int)≤n13)&&decide (n13 < (List.length (PV.els (PV.fld p2 3)):Int))) then
 c72 p1 (List.getD (PV.els (PV.fld p2 3)) (n13).toNat PV.nil) h14 fun n15 h16 =>
 bif (PV.isRp p1) then
 bif (true&&true&&(hokV h16 116 (PV.rI p1))) then
 bif (PV.isRp p1) then
 bif (true&&true&&(hokV h16 116 (PV.rI p1))) then
 bif (true&&decide ((0:Int)≤((PV.rN (PV.fld (hvarOf h3 (PV.rI p1)) 0)):Int))&&decide (((PV.rN (PV.fld (hvarOf h3 (PV.rI p1)) 0)):Int) < ((PV.rN (PV.fld (hvarOf h16 (PV.rI p1)) 0)):Int))) then
 bif (true&&true&&(hokR h16 122 (PV.rI (PV.fld (hvarOf h16 (PV.rI p1)) 0)) ((PV.rN (PV.fld (hvarOf h3 (PV.rI p1)) 0)):Int))) then
 let p17:PV:=(PV.fld (List.getD (hrowOf h16 (PV.rI (PV.fld (hvarOf h16 (PV.rI p1)) 0))) (((PV.rN (PV.fld (hvarOf h3 (PV.rI p1)) 0)):Int)).toNat PV.nil) 1)
 let h18:List HE:=(h16++[HE.row 3 [(PV.int n15)]])
 bif (true&&true&&(hokV h18 116 (PV.rI p1))) then
 bif (PV.beq (PV.fld (hvarOf h18 (PV.rI p1)) 0) (PV.fld (hvarOf h16 (PV.rI p1)) 0)) then
 bif (hokS h18 3 p17&&hokS h18 3 (PV.rs (List.length h16) 1)&&true&&true&&true&&true&&true&&true&&((PV.isRs p17) || decide (0 < 1))&&roomy ((PV.rN p17)+1) 8) then
 let h19:List HE:=(hgone h18 p17++[HE.row 3 (hels h18 p17++hels h18 (PV.rs (List.length h16) 1))])
 bif (true&&true&&(hokV h19 116 (PV.rI p1))) then
 bif (PV.beq (PV.fld (hvarOf h19 (PV.rI p1)) 0) (PV.fld (hvarOf h16 (PV.rI p1)) 0)) then
 bif (true&&decide ((0:Int)≤((PV.rN (PV.fld (hvarOf h3 (PV.rI p1)) 0)):Int))&&decide (((PV.rN (PV.fld (hvarOf h3 (PV.rI p1)) 0)):Int) < ((PV.rN (PV.fld (hvarOf h16 (PV.rI p1)) 0)):Int))) then
 bif (true&&(hokR h19 122 (PV.rI (PV.fld (hvarOf h16 (PV.rI p1)) 0)) ((PV.rN (PV.fld (hvarOf h3 (PV.rI p1)) 0)):Int))) then
 let h20:List HE:=(List.set h19 (PV.rI (PV.fld (hvarOf h16 (PV.rI p1)) 0)) (HE.row 122 (List.set (hrowOf h19 (PV.rI (PV.fld (hvarOf h16 (PV.rI p1)) 0))) (((PV.rN (PV.fld (hvarOf h3 (PV.rI p1)) 0)):Int)).toNat (PV.agg (List.set (PV.flds (List.getD (hrowOf h19 (PV.rI (PV.fld (hvarOf h16 (PV.rI p1)) 0))) (((PV.rN (PV.fld (hvarOf h3 (PV.rI p1)) 0)):Int)).toNat PV.nil)) 1 (PV.rs (List.length h18) ((PV.rN p17)+1)))))))
 next_w1_0 (IntKind.wrap .i64 (n13+(1:Int))) h20
 else none
 else none
 else none
 else none
 else none
 else none
 else none
 else none
 else none
 else none
 else none
 else none
 else none
 else none
 else ret0 ((PV.rN (PV.fld (hvarOf h3 (PV.rI p1)) 0)):Int) h14

theorem f72_w1b0_mem (k:Nat)(c72:Ch_7)(retF:Int × (List HE)→R)(NX_w1:St→R)(p1:PV)(p2:PV)(h3:List HE)(n13:Int)(h14:List HE):exec (f72_E k c72) f72_cw1 (purgeK (f72_E k c72) f72_cw1 (loopK NX_w1 (kont (f72_E k c72) f72_code [1,1,1,0,1,0] (endK (f72_E k c72) Try.f72 [1000000000000] f72_un retF)))) (f72_hw1_0 p1 p2 h3 n13 h14)=f72_w1b0 c72 (fun y0 y1=>retF (y0,y1)) (fun n13 h14=>NX_w1 (f72_hw1_0 p1 p2 h3 n13 h14)) p1 p2 h3 n13 h14:=by kernel_rfl

noncomputable def f72_w1b0N (k:Nat)(c72:Ch_7)(ret0:Int→(List HE)→R)(next_w1_0:Int→(List HE)→R)(p1:PV)(p2:PV)(h3:List HE)(n13:Int)(h14:List HE):R :=
 f72_w1b0 c72 ret0 next_w1_0 p1 p2 h3 n13 h14
theorem f72_w1b0_eq (k:Nat)(c72:Ch_7)(retF:Int × (List HE)→R)(NX_w1:St→R)(p1:PV)(p2:PV)(h3:List HE)(n13:Int)(h14:List HE):exec (f72_E k c72) f72_cw1 (purgeK (f72_E k c72) f72_cw1 (loopK NX_w1 (kont (f72_E k c72) f72_code [1,1,1,0,1,0] (endK (f72_E k c72) Try.f72 [1000000000000] f72_un retF)))) (f72_hw1_0 p1 p2 h3 n13 h14)=f72_w1b0N k c72 (fun y0 y1=>retF (y0,y1)) (fun n13 h14=>NX_w1 (f72_hw1_0 p1 p2 h3 n13 h14)) p1 p2 h3 n13 h14 :=
 (f72_w1b0_mem k c72 retF NX_w1 p1 p2 h3 n13 h14)

noncomputable def f72_w1B (k:Nat)(c72:Ch_7)(ret0:Int→(List HE)→R)(p1:PV)(p2:PV)(h3:List HE)(nx:Int × (List HE)→R):Int × (List HE)→R:=(fun s=>f72_w1b0N k c72 ret0 (fun n13 h14=>nx (n13,h14)) p1 p2 h3 s.1 s.2)
noncomputable def f72_w1N (k:Nat)(c72:Ch_7)(ret0:Int→(List HE)→R)(p1:PV)(p2:PV)(h3:List HE)(n13:Int)(h14:List HE):R:=loopR (f72_w1B k c72 ret0 p1 p2 h3) k (n13,h14)
theorem f72_w1_eq (k:Nat)(c72:Ch_7)(retF:Int × (List HE)→R)(p1:PV)(p2:PV)(h3:List HE)(n13:Int)(h14:List HE):f72_w1A k c72 retF p1 p2 h3 n13 h14=f72_w1N k c72 (fun y0 y1=>retF (y0,y1)) p1 p2 h3 n13 h14 :=
 Eq.mp (by kernel_rfl) (loop_sim (E:=(f72_E k c72)) (c:=f72_cw1) (K:=(kont (f72_E k c72) f72_code [1,1,1,0,1,0] (endK (f72_E k c72) Try.f72 [1000000000000] f72_un retF))) (S:=Int × (List HE)) (fun s=>f72_hw1_0 p1 p2 h3 s.1 s.2) (f72_w1B k c72 (fun y0 y1=>retF (y0,y1)) p1 p2 h3) (fun NX s=>by
  exact Eq.mp (by kernel_rfl) (f72_w1b0_eq k c72 retF NX p1 p2 h3 s.1 s.2)) k (n13,h14))

noncomputable def f72_e (c72:Ch_7)(ret0:Int→(List HE)→R)(w1:Int→(List HE)→R)(p1:PV)(p2:PV)(h3:List HE):R :=
 bif (PV.isRp p1) then
 bif (true&&true&&(hokV h3 116 (PV.rI p1))) then
 bif (PV.isRp p1) then
 bif (true&&true&&(hokV h3 116 (PV.rI p1))) then
 let h4:List HE:=(h3++[HE.row 122 [(PV.agg [p2,(PV.list [])])]])
 bif (hokS h4 122 (PV.fld (hvarOf h3 (PV.rI p1)) 0)&&hokS h4 122 (PV.rs (List.length h3) 1)&&true&&true&&true&&true&&true&&true&&((PV.isRs (PV.fld (hvarOf h3 (PV.rI p1)) 0)) || decide (0 < 1))&&roomy ((PV.rN (PV.fld (hvarOf h3 (PV.rI p1)) 0))+1) 96) then
 let h5:List HE:=(hgone h4 (PV.fld (hvarOf h3 (PV.rI p1)) 0)++[HE.row 122 (hels h4 (PV.fld (hvarOf h3 (PV.rI p1)) 0)++hels h4 (PV.rs (List.length h3) 1))])
 bif (PV.isRp p1) then
 bif (true&&(hokV h5 116 (PV.rI p1))) then
 let h6:List HE:=(List.set h5 (PV.rI p1) (HE.var 116 (PV.agg (List.set (PV.flds (hvarOf h5 (PV.rI p1))) 0 (PV.rs (List.length h4) ((PV.rN (PV.fld (hvarOf h3 (PV.rI p1)) 0))+1))))))
 w1 0 h6
 else none
 else none
 else none
 else none
 else none
 else none
 else none

theorem f72_e_mem (k:Nat)(c72:Ch_7)(retF:Int × (List HE)→R)(p1:PV)(p2:PV)(h3:List HE):exec (f72_E k c72) f72_code (endK (f72_E k c72) Try.f72 [1000000000000] f72_un retF) ⟨[.hval 87 p1,.val 28 p2,.undef,.undef,.undef,.undef,.undef,.undef,.undef,.undef,.undef,.undef,.undef,.undef,.undef,.undef,.undef,.undef,.undef,.undef,.undef,.undef,.undef,.undef,.undef,.undef,.undef,.undef,.undef,.undef,.undef,.undef,.undef,.undef,.undef,.undef,.undef,.undef,.undef,.undef,.undef,.undef,.undef,.undef,.undef,.undef,.undef,.undef,.undef,.undef,.undef,.undef,.undef,.undef,.undef],[(1000000000000,.hp h3)]⟩=f72_e c72 (fun y0 y1=>retF (y0,y1)) (fun n13 h14=>f72_w1A k c72 retF p1 p2 h3 n13 h14) p1 p2 h3:=by kernel_rfl

noncomputable def f72_N (k:Nat)(c72:Ch_7)(ret0:Int→(List HE)→R)(p1:PV)(p2:PV)(h3:List HE):R :=
 f72_e c72 ret0 (fun n13 h14=>f72_w1N k c72 ret0 p1 p2 h3 n13 h14) p1 p2 h3
theorem f72_eq (k:Nat)(c72:Ch_7)(retF:Int × (List HE)→R)(p1:PV)(p2:PV)(h3:List HE):exec (f72_E k c72) f72_code (endK (f72_E k c72) Try.f72 [1000000000000] f72_un retF) ⟨[.hval 87 p1,.val 28 p2,.undef,.undef,.undef,.undef,.undef,.undef,.undef,.undef,.undef,.undef,.undef,.undef,.undef,.undef,.undef,.undef,.undef,.undef,.undef,.undef,.undef,.undef,.undef,.undef,.undef,.undef,.undef,.undef,.undef,.undef,.undef,.undef,.undef,.undef,.undef,.undef,.undef,.undef,.undef,.undef,.undef,.undef,.undef,.undef,.undef,.undef,.undef,.undef,.undef,.undef,.undef,.undef,.undef],[(1000000000000,.hp h3)]⟩=f72_N k c72 (fun y0 y1=>retF (y0,y1)) p1 p2 h3 :=
 (f72_e_mem k c72 retF p1 p2 h3).trans (by rw [show (fun n13 h14=>f72_w1A k c72 retF p1 p2 h3 n13 h14)=(fun n13 h14=>f72_w1N k c72 (fun y0 y1=>retF (y0,y1)) p1 p2 h3 n13 h14) from funext fun n13=>funext fun h14=>f72_w1_eq k c72 retF p1 p2 h3 n13 h14];rfl)

noncomputable def G72:Nat→PV→PV→(List HE)→(Int→(List HE)→R)→R
 | 0,_,_,_,_=>none
 | k+1,p1,p2,h3,ret0=>f72_N k (G72 k) ret0 p1 p2 h3
theorem S72:∀ k,Snd Try.prog 72 f72_I f72_O (fun x ret=>G72 k x.1 x.2.1 x.2.2 (fun y0 y1=>ret (y0,y1)))
 | 0=>snd_none
 | k+1=>snd_step (E:=f72_E k (G72 k)) rfl laidOut noNums (orc_ok (S72 k).o f72_D_ok orc0_ok) (f:=72) (fn:=Try.f72) (code:=f72_code) Try.func72 (by kernel_rfl) (drawsOk_of laidOut (orc_ok (S72 k).o f72_D_ok orc0_ok) mixed (by kernel_rfl)) f72_un f72_un_ok [1000000000000] (fun _=>rfl)
   (fun x ret=>f72_eq k (G72 k) ret x.1 x.2.1 x.2.2)

noncomputable def f50_I:PV × PV × (List HE)→List SV × Obs:=fun x=>([.val 28 x.1,.val 36 x.2.1],[(1000000000000,.hp x.2.2)])
noncomputable def f50_D:List SV→Obs→Option (PV × PV × (List HE))
 | [.val 28 p1,.val 36 p2],[(1000000000000,.hp h3)]=>some (p1,p2,h3)
 | _,_=>none
theorem f50_D_ok (args:List SV)(B:Obs)(x:PV × PV × (List HE))(h:f50_D args B=some x):f50_I x=(args,B):=by
 unfold f50_D at h
 split at h
 ·injection h with h;subst h;rfl
 ·cases h
noncomputable def f50_O:PV × (List HE)→Out:=(fun y=>([.hval 87 y.1],[(1000000000000,.hp y.2)]))
noncomputable def f50_un:Out→Option (PV × (List HE))
 | ([.hval 87 y0],[(1000000000000,.hp y1)])=>some (y0,y1)
 | _=>none
theorem f50_un_ok (o:Out)(y:PV × (List HE))(h:f50_un o=some y):o=f50_O y:=by
 unfold f50_un at h
 split at h
 ·injection h with h;subst h;rfl
 ·cases h
noncomputable def f50_msk:Nat→Option (List Nat):=fun key=> none
noncomputable def f50_C (c72:Ch_7):Oracle:=orc 72 f72_D f72_O (fun x ret=>c72 x.1 x.2.1 x.2.2 (fun y0 y1=>ret (y0,y1))) <| orc0
noncomputable def f50_E (k:Nat)(c72:Ch_7):Env:={ P:=Try.prog,nilOwn:=fun d=>false,fldOwn:=fun d i=>false,ownPar:=ownPars,ownRet:=false,hpD:=fun d=>d==7 || d==8 || d==18,hpF:=hpFs,hpNew:=false,mask:=f50_msk,fuel:=k,C:=f50_C c72 }
noncomputable def f50_code:Code:=Try.f50.body.getD .skip
noncomputable def f50_e (c72:Ch_7)(ret0:PV→(List HE)→R)(p1:PV)(p2:PV)(h3:List HE):R :=
 let h4:List HE:=(h3++[HE.var 116 (PV.agg [(PV.list []),p2,(PV.list [])])])
 c72 (PV.rp (List.length h3)) p1 h4 fun n5 h6 =>
 bif (true&&true&&(hokV h6 116 (List.length h3))) then
 bif (true&&(true&&decide ((0:Int)≤((PV.rN (PV.fld (hvarOf h6 (List.length h3)) 0)):Int))&&decide (((PV.rN (PV.fld (hvarOf h6 (List.length h3)) 0)):Int)=((PV.rN (PV.fld (hvarOf h6 (List.length h3)) 0)):Int))&&roomy (((PV.rN (PV.fld (hvarOf h6 (List.length h3)) 0)):Int)).toNat 24)) then
 let h7:List HE:=(h6++[HE.row 149 (List.replicate (((PV.rN (PV.fld (hvarOf h6 (List.length h3)) 0)):Int)).toNat (PV.list []))])
 bif (true&&(hokV h7 116 (List.length h3))) then
 let h8:List HE:=(List.set h7 (List.length h3) (HE.var 116 (PV.agg (List.set (PV.flds (hvarOf h7 (List.length h3))) 2 (PV.rs (List.length h6) (((PV.rN (PV.fld (hvarOf h6 (List.length h3)) 0)):Int)).toNat)))))
 ret0 (PV.rp (List.length h3)) h8
 else none
 else none
 else none

theorem f50_e_mem (k:Nat)(c72:Ch_7)(retF:PV × (List HE)→R)(p1:PV)(p2:PV)(h3:List HE):exec (f50_E k c72) f50_code (endK (f50_E k c72) Try.f50 [1000000000000] f50_un retF) ⟨[.val 28 p1,.val 36 p2,.undef,.undef,.undef,.undef,.undef,.undef,.undef,.undef,.undef,.undef,.undef,.undef,.undef,.undef,.undef,.undef,.undef,.undef,.undef,.undef],[(1000000000000,.hp h3)]⟩=f50_e c72 (fun y0 y1=>retF (y0,y1)) p1 p2 h3:=by kernel_rfl

noncomputable def f50_N (k:Nat)(c72:Ch_7)(ret0:PV→(List HE)→R)(p1:PV)(p2:PV)(h3:List HE):R :=
 f50_e c72 ret0 p1 p2 h3
theorem f50_eq (k:Nat)(c72:Ch_7)(retF:PV × (List HE)→R)(p1:PV)(p2:PV)(h3:List HE):exec (f50_E k c72) f50_code (endK (f50_E k c72) Try.f50 [1000000000000] f50_un retF) ⟨[.val 28 p1,.val 36 p2,.undef,.undef,.undef,.undef,.undef,.undef,.undef,.undef,.undef,.undef,.undef,.undef,.undef,.undef,.undef,.undef,.undef,.undef,.undef,.undef],[(1000000000000,.hp h3)]⟩=f50_N k c72 (fun y0 y1=>retF (y0,y1)) p1 p2 h3 :=
 (f50_e_mem k c72 retF p1 p2 h3)

noncomputable def G50:Nat→PV→PV→(List HE)→(PV→(List HE)→R)→R
 | 0,_,_,_,_=>none
 | k+1,p1,p2,h3,ret0=>f50_N k (G72 k) ret0 p1 p2 h3
theorem S50:∀ k,Snd Try.prog 50 f50_I f50_O (fun x ret=>G50 k x.1 x.2.1 x.2.2 (fun y0 y1=>ret (y0,y1)))
 | 0=>snd_none
 | k+1=>snd_step (E:=f50_E k (G72 k)) rfl laidOut noNums (orc_ok (S72 k).o f72_D_ok orc0_ok) (f:=50) (fn:=Try.f50) (code:=f50_code) Try.func50 (by kernel_rfl) (drawsOk_of laidOut (orc_ok (S72 k).o f72_D_ok orc0_ok) mixed (by kernel_rfl)) f50_un f50_un_ok [1000000000000] (fun _=>rfl)
   (fun x ret=>f50_eq k (G72 k) ret x.1 x.2.1 x.2.2)

noncomputable def f96_I:PV × Int × (List HE)→List SV × Obs:=fun x=>([.hval 118 x.1,.int .i64 x.2.1],[(1000000000000,.hp x.2.2)])
noncomputable def f96_D:List SV→Obs→Option (PV × Int × (List HE))
 | [.hval 118 p1,.int .i64 n2],[(1000000000000,.hp h3)]=>some (p1,n2,h3)
 | _,_=>none
theorem f96_D_ok (args:List SV)(B:Obs)(x:PV × Int × (List HE))(h:f96_D args B=some x):f96_I x=(args,B):=by
 unfold f96_D at h
 split at h
 ·injection h with h;subst h;rfl
 ·cases h
noncomputable def f96_O:(List HE)→Out:=(fun y=>([],[(1000000000000,.hp y)]))
noncomputable def f96_un:Out→Option ((List HE))
 | ([],[(1000000000000,.hp y0)])=>some y0
 | _=>none
theorem f96_un_ok (o:Out)(y:(List HE))(h:f96_un o=some y):o=f96_O y:=by
 unfold f96_un at h
 split at h
 ·injection h with h;subst h;rfl
 ·cases h
noncomputable def f96_msk:Nat→Option (List Nat):=fun key=> none
noncomputable def f96_C:Oracle:=orc0
noncomputable def f96_E (k:Nat):Env:={ P:=Try.prog,nilOwn:=fun d=>false,fldOwn:=fun d i=>false,ownPar:=ownPars,ownRet:=false,hpD:=fun d=>false,hpF:=hpFs,hpNew:=false,mask:=f96_msk,fuel:=k,C:=f96_C }
noncomputable def f96_code:Code:=Try.f96.body.getD .skip
noncomputable def f96_e (ret0:(List HE)→R)(p1:PV)(n2:Int)(h3:List HE):R :=
 bif (PV.isRp p1) then
 bif (true&&decide ((0:Int)≤(IntKind.wrap .i64 (Int.tdiv n2 64)))&&decide ((IntKind.wrap .i64 (Int.tdiv n2 64)) < 5)) then
 bif (true&&true&&(hokV h3 151 (PV.rI p1))) then
 bif (decide ((0:Int)≤(Int.tmod n2 64))) then
 let n4:Int:=(intBit .or .u64 (PV.num (PV.fld (hvarOf h3 (PV.rI p1)) ((IntKind.wrap .i64 (Int.tdiv n2 64))).toNat)) (IntKind.wrap .u64 ((1:Int) * 2 ^ (min ((Int.tmod n2 64)).toNat 64))))
 bif (PV.isRp p1) then
 bif (true&&decide ((0:Int)≤(IntKind.wrap .i64 (Int.tdiv n2 64)))&&decide ((IntKind.wrap .i64 (Int.tdiv n2 64)) < 5)) then
 bif (true&&(hokV h3 151 (PV.rI p1))) then
 let h5:List HE:=(List.set h3 (PV.rI p1) (HE.var 151 (PV.agg (List.set (PV.flds (hvarOf h3 (PV.rI p1))) ((IntKind.wrap .i64 (Int.tdiv n2 64))).toNat (PV.int n4)))))
 ret0 h5
 else none
 else none
 else none
 else none
 else none
 else none
 else none

theorem f96_e_mem (k:Nat)(retF:(List HE)→R)(p1:PV)(n2:Int)(h3:List HE):exec (f96_E k) f96_code (endK (f96_E k) Try.f96 [1000000000000] f96_un retF) ⟨[.hval 118 p1,.int .i64 n2,.undef,.undef,.undef,.undef,.undef,.undef,.undef,.undef,.undef,.undef,.undef,.undef,.undef,.undef],[(1000000000000,.hp h3)]⟩=f96_e (fun y0=>retF y0) p1 n2 h3:=by kernel_rfl

noncomputable def f96_N (k:Nat)(ret0:(List HE)→R)(p1:PV)(n2:Int)(h3:List HE):R :=
 f96_e ret0 p1 n2 h3
theorem f96_eq (k:Nat)(retF:(List HE)→R)(p1:PV)(n2:Int)(h3:List HE):exec (f96_E k) f96_code (endK (f96_E k) Try.f96 [1000000000000] f96_un retF) ⟨[.hval 118 p1,.int .i64 n2,.undef,.undef,.undef,.undef,.undef,.undef,.undef,.undef,.undef,.undef,.undef,.undef,.undef,.undef],[(1000000000000,.hp h3)]⟩=f96_N k (fun y0=>retF y0) p1 n2 h3 :=
 (f96_e_mem k retF p1 n2 h3)

noncomputable def G96:Nat→PV→Int→(List HE)→((List HE)→R)→R
 | 0,_,_,_,_=>none
 | k+1,p1,n2,h3,ret0=>f96_N k  ret0 p1 n2 h3
theorem S96:∀ k,Snd Try.prog 96 f96_I f96_O (fun x ret=>G96 k x.1 x.2.1 x.2.2 (fun y0=>ret y0))
 | 0=>snd_none
 | k+1=>snd_step (E:=f96_E k ) rfl laidOut noNums orc0_ok (f:=96) (fn:=Try.f96) (code:=f96_code) Try.func96 (by kernel_rfl) (drawsOk_of laidOut orc0_ok mixed (by kernel_rfl)) f96_un f96_un_ok [1000000000000] (fun _=>rfl)
   (fun x ret=>f96_eq k  ret x.1 x.2.1 x.2.2)

noncomputable def f97_I:PV × Int→List SV × Obs:=fun x=>([.val 25 x.1,.int .u8 x.2],[])
noncomputable def f97_D:List SV→Obs→Option (PV × Int)
 | [.val 25 p1,.int .u8 n2],[]=>some (p1,n2)
 | _,_=>none
theorem f97_D_ok (args:List SV)(B:Obs)(x:PV × Int)(h:f97_D args B=some x):f97_I x=(args,B):=by
 unfold f97_D at h
 split at h
 ·injection h with h;subst h;rfl
 ·cases h
noncomputable def f97_O:Bool→Out:=(fun y=>([.bool y],[]))
noncomputable def f97_un:Out→Option (Bool)
 | ([.bool y0],[])=>some y0
 | _=>none
theorem f97_un_ok (o:Out)(y:Bool)(h:f97_un o=some y):o=f97_O y:=by
 unfold f97_un at h
 split at h
 ·injection h with h;subst h;rfl
 ·cases h
noncomputable def f97_msk:Nat→Option (List Nat):=fun key=> none
noncomputable def f97_C:Oracle:=orc0
noncomputable def f97_E (k:Nat):Env:={ P:=Try.prog,nilOwn:=fun d=>false,fldOwn:=fun d i=>false,ownPar:=ownPars,ownRet:=false,hpD:=fun d=>false,hpF:=hpFs,hpNew:=false,mask:=f97_msk,fuel:=k,C:=f97_C }
noncomputable def f97_code:Code:=Try.f97.body.getD .skip
noncomputable def f97_e (ret0:Bool→R)(p1:PV)(n2:Int):R :=
 bif (true&&decide ((0:Int)≤(IntKind.wrap .u8 (Int.tdiv n2 64)))&&decide ((IntKind.wrap .u8 (Int.tdiv n2 64)) < 4)) then
 bif (decide ((0:Int)≤(Int.tmod n2 64))) then
 let n3:Int:=(Int.fdiv (PV.num (PV.fld p1 ((IntKind.wrap .u8 (Int.tdiv n2 64))).toNat)) (2 ^ (min ((Int.tmod n2 64)).toNat 64)))
 ret0 (decide ((intBit .and .u64 n3 1)=(1:Int)))
 else none
 else none

theorem f97_e_mem (k:Nat)(retF:Bool→R)(p1:PV)(n2:Int):exec (f97_E k) f97_code (endK (f97_E k) Try.f97 [] f97_un retF) ⟨[.val 25 p1,.int .u8 n2,.undef,.undef,.undef,.undef,.undef,.undef,.undef,.undef,.undef,.undef,.undef,.undef],[]⟩=f97_e (fun y0=>retF y0) p1 n2:=by kernel_rfl

noncomputable def f97_N (k:Nat)(ret0:Bool→R)(p1:PV)(n2:Int):R :=
 f97_e ret0 p1 n2
theorem f97_eq (k:Nat)(retF:Bool→R)(p1:PV)(n2:Int):exec (f97_E k) f97_code (endK (f97_E k) Try.f97 [] f97_un retF) ⟨[.val 25 p1,.int .u8 n2,.undef,.undef,.undef,.undef,.undef,.undef,.undef,.undef,.undef,.undef,.undef,.undef],[]⟩=f97_N k (fun y0=>retF y0) p1 n2 :=
 (f97_e_mem k retF p1 n2)

noncomputable def G97:Nat→PV→Int→(Bool→R)→R
 | 0,_,_,_=>none
 | k+1,p1,n2,ret0=>f97_N k  ret0 p1 n2
theorem S97:∀ k,Snd Try.prog 97 f97_I f97_O (fun x ret=>G97 k x.1 x.2 (fun y0=>ret y0))
 | 0=>snd_none
 | k+1=>snd_step (E:=f97_E k ) rfl laidOut noNums orc0_ok (f:=97) (fn:=Try.f97) (code:=f97_code) Try.func97 (by kernel_rfl) (drawsOk_of laidOut orc0_ok mixed (by kernel_rfl)) f97_un f97_un_ok [] (fun _=>rfl)
   (fun x ret=>f97_eq k  ret x.1 x.2)

noncomputable def f75_I:PV × Int × (List HE)→List SV × Obs:=fun x=>([.hval 118 x.1,.int .i64 x.2.1],[(1000000000000,.hp x.2.2)])
noncomputable def f75_D:List SV→Obs→Option (PV × Int × (List HE))
 | [.hval 118 p1,.int .i64 n2],[(1000000000000,.hp h3)]=>some (p1,n2,h3)
 | _,_=>none
theorem f75_D_ok (args:List SV)(B:Obs)(x:PV × Int × (List HE))(h:f75_D args B=some x):f75_I x=(args,B):=by
 unfold f75_D at h
 split at h
 ·injection h with h;subst h;rfl
 ·cases h
noncomputable def f75_O:Bool × (List HE)→Out:=(fun y=>([.bool y.1],[(1000000000000,.hp y.2)]))
noncomputable def f75_un:Out→Option (Bool × (List HE))
 | ([.bool y0],[(1000000000000,.hp y1)])=>some (y0,y1)
 | _=>none
theorem f75_un_ok (o:Out)(y:Bool × (List HE))(h:f75_un o=some y):o=f75_O y:=by
 unfold f75_un at h
 split at h
 ·injection h with h;subst h;rfl
 ·cases h
noncomputable def f75_msk:Nat→Option (List Nat):=fun key=> none
noncomputable def f75_C:Oracle:=orc0
noncomputable def f75_E (k:Nat):Env:={ P:=Try.prog,nilOwn:=fun d=>false,fldOwn:=fun d i=>false,ownPar:=ownPars,ownRet:=false,hpD:=fun d=>false,hpF:=hpFs,hpNew:=false,mask:=f75_msk,fuel:=k,C:=f75_C }
noncomputable def f75_code:Code:=Try.f75.body.getD .skip
noncomputable def f75_e (ret0:Bool→(List HE)→R)(p1:PV)(n2:Int)(h3:List HE):R :=
 bif (PV.isRp p1) then
 bif (true&&decide ((0:Int)≤(IntKind.wrap .i64 (Int.tdiv n2 64)))&&decide ((IntKind.wrap .i64 (Int.tdiv n2 64)) < 5)) then
 bif (true&&true&&(hokV h3 151 (PV.rI p1))) then
 bif (decide ((0:Int)≤(Int.tmod n2 64))) then
 let n4:Int:=(Int.fdiv (PV.num (PV.fld (hvarOf h3 (PV.rI p1)) ((IntKind.wrap .i64 (Int.tdiv n2 64))).toNat)) (2 ^ (min ((Int.tmod n2 64)).toNat 64)))
 ret0 (decide ((intBit .and .u64 n4 1)=(1:Int))) h3
 else none
 else none
 else none
 else none

theorem f75_e_mem (k:Nat)(retF:Bool × (List HE)→R)(p1:PV)(n2:Int)(h3:List HE):exec (f75_E k) f75_code (endK (f75_E k) Try.f75 [1000000000000] f75_un retF) ⟨[.hval 118 p1,.int .i64 n2,.undef,.undef,.undef,.undef,.undef,.undef,.undef,.undef,.undef,.undef,.undef,.undef,.undef,.undef],[(1000000000000,.hp h3)]⟩=f75_e (fun y0 y1=>retF (y0,y1)) p1 n2 h3:=by kernel_rfl

noncomputable def f75_N (k:Nat)(ret0:Bool→(List HE)→R)(p1:PV)(n2:Int)(h3:List HE):R :=
 f75_e ret0 p1 n2 h3
theorem f75_eq (k:Nat)(retF:Bool × (List HE)→R)(p1:PV)(n2:Int)(h3:List HE):exec (f75_E k) f75_code (endK (f75_E k) Try.f75 [1000000000000] f75_un retF) ⟨[.hval 118 p1,.int .i64 n2,.undef,.undef,.undef,.undef,.undef,.undef,.undef,.undef,.undef,.undef,.undef,.undef,.undef,.undef],[(1000000000000,.hp h3)]⟩=f75_N k (fun y0 y1=>retF (y0,y1)) p1 n2 h3 :=
 (f75_e_mem k retF p1 n2 h3)

noncomputable def G75:Nat→PV→Int→(List HE)→(Bool→(List HE)→R)→R
 | 0,_,_,_,_=>none
 | k+1,p1,n2,h3,ret0=>f75_N k  ret0 p1 n2 h3
theorem S75:∀ k,Snd Try.prog 75 f75_I f75_O (fun x ret=>G75 k x.1 x.2.1 x.2.2 (fun y0 y1=>ret (y0,y1)))
 | 0=>snd_none
 | k+1=>snd_step (E:=f75_E k ) rfl laidOut noNums orc0_ok (f:=75) (fn:=Try.f75) (code:=f75_code) Try.func75 (by kernel_rfl) (drawsOk_of laidOut orc0_ok mixed (by kernel_rfl)) f75_un f75_un_ok [1000000000000] (fun _=>rfl)
   (fun x ret=>f75_eq k  ret x.1 x.2.1 x.2.2)

noncomputable def f98_I:PV × PV × (List HE)→List SV × Obs:=fun x=>([.hval 118 x.1,.hval 118 x.2.1],[(1000000000000,.hp x.2.2)])
noncomputable def f98_D:List SV→Obs→Option (PV × PV × (List HE))
 | [.hval 118 p1,.hval 118 p2],[(1000000000000,.hp h3)]=>some (p1,p2,h3)
 | _,_=>none
theorem f98_D_ok (args:List SV)(B:Obs)(x:PV × PV × (List HE))(h:f98_D args B=some x):f98_I x=(args,B):=by
 unfold f98_D at h
 split at h
 ·injection h with h;subst h;rfl
 ·cases h
noncomputable def f98_O:(List HE)→Out:=(fun y=>([],[(1000000000000,.hp y)]))
noncomputable def f98_un:Out→Option ((List HE))
 | ([],[(1000000000000,.hp y0)])=>some y0
 | _=>none
theorem f98_un_ok (o:Out)(y:(List HE))(h:f98_un o=some y):o=f98_O y:=by
 unfold f98_un at h
 split at h
 ·injection h with h;subst h;rfl
 ·cases h
noncomputable def f98_msk:Nat→Option (List Nat):=fun key=>bif key==3 then some [0,1,5] else none
noncomputable def f98_C:Oracle:=orc0
noncomputable def f98_E (k:Nat):Env:={ P:=Try.prog,nilOwn:=fun d=>false,fldOwn:=fun d i=>false,ownPar:=ownPars,ownRet:=false,hpD:=fun d=>false,hpF:=hpFs,hpNew:=false,mask:=f98_msk,fuel:=k,C:=f98_C }
noncomputable def f98_code:Code:=Try.f98.body.getD .skip
noncomputable def f98_cw1:Code:=subC f98_code [1,0,0]
noncomputable def f98_hw1_0 (p1:PV)(p2:PV)(n6:Int)(h7:List HE):St:=⟨[.hval 118 p1,.hval 118 p2,.dead,.dead,.dead,.int .i64 n6,.dead,.dead,.dead,.dead,.dead,.dead,.dead,.dead,.dead,.dead,.dead,.dead,.dead,.dead,.dead,.dead],[(1000000000000,.hp h7)]⟩
noncomputable def f98_w1A (k:Nat)(retF:(List HE)→R)(p1:PV)(p2:PV)(n6:Int)(h7:List HE):R:=loopM (f98_E k) f98_cw1 (kont (f98_E k) f98_code [1,0] (endK (f98_E k) Try.f98 [1000000000000] f98_un retF)) k (f98_hw1_0 p1 p2 n6 h7)
noncomputable def f98_w1b0 (ret0:(List HE)→R)(next_w1_0:Int→(List HE)→R)(p1:PV)(p2:PV)(n6:Int)(h7:List HE):R :=
 bif (decide (n6 < (5:Int))) then
 bif (PV.isRp p1) then
 bif (true&&decide ((0:Int)≤n6)&&decide (n6 < 5)) then
 bif (true&&true&&(hokV h7 151 (PV.rI p1))) then
 bif (PV.isRp p2) then
 bif (true&&decide ((0:Int)≤n6)&&decide (n6 < 5)) then
 bif (true&&true&&(hokV h7 151 (PV.rI p2))) then
 let n8:Int:=(intBit .or .u64 (PV.num (PV.fld (hvarOf h7 (PV.rI p1)) (n6).toNat)) (PV.num (PV.fld (hvarOf h7 (PV.rI p2)) (n6).toNat)))
 bif (PV.isRp p1) then
 bif (true&&decide ((0:Int)≤n6)&&decide (n6 < 5)) then
 bif (true&&(hokV h7 151 (PV.rI p1))) then
 let h9:List HE:=(List.set h7 (PV.rI p1) (HE.var 151 (PV.agg (List.set (PV.flds (hvarOf h7 (PV.rI p1))) (n6).toNat (PV.int n8)))))
 next_w1_0 (IntKind.wrap .i64 (n6+(1:Int))) h9
 else none
 else none
 else none
 else none
 else none
 else none
 else none
 else none
 else none
 else ret0 h7

theorem f98_w1b0_mem (k:Nat)(retF:(List HE)→R)(NX_w1:St→R)(p1:PV)(p2:PV)(n6:Int)(h7:List HE):exec (f98_E k) f98_cw1 (purgeK (f98_E k) f98_cw1 (loopK NX_w1 (kont (f98_E k) f98_code [1,0] (endK (f98_E k) Try.f98 [1000000000000] f98_un retF)))) (f98_hw1_0 p1 p2 n6 h7)=f98_w1b0 (fun y0=>retF y0) (fun n6 h7=>NX_w1 (f98_hw1_0 p1 p2 n6 h7)) p1 p2 n6 h7:=by kernel_rfl

noncomputable def f98_w1b0N (k:Nat)(ret0:(List HE)→R)(next_w1_0:Int→(List HE)→R)(p1:PV)(p2:PV)(n6:Int)(h7:List HE):R :=
 f98_w1b0 ret0 next_w1_0 p1 p2 n6 h7
theorem f98_w1b0_eq (k:Nat)(retF:(List HE)→R)(NX_w1:St→R)(p1:PV)(p2:PV)(n6:Int)(h7:List HE):exec (f98_E k) f98_cw1 (purgeK (f98_E k) f98_cw1 (loopK NX_w1 (kont (f98_E k) f98_code [1,0] (endK (f98_E k) Try.f98 [1000000000000] f98_un retF)))) (f98_hw1_0 p1 p2 n6 h7)=f98_w1b0N k (fun y0=>retF y0) (fun n6 h7=>NX_w1 (f98_hw1_0 p1 p2 n6 h7)) p1 p2 n6 h7 :=
 (f98_w1b0_mem k retF NX_w1 p1 p2 n6 h7)

noncomputable def f98_w1B (k:Nat)(ret0:(List HE)→R)(p1:PV)(p2:PV)(nx:Int × (List HE)→R):Int × (List HE)→R:=(fun s=>f98_w1b0N k ret0 (fun n6 h7=>nx (n6,h7)) p1 p2 s.1 s.2)
noncomputable def f98_w1N (k:Nat)(ret0:(List HE)→R)(p1:PV)(p2:PV)(n6:Int)(h7:List HE):R:=loopR (f98_w1B k ret0 p1 p2) k (n6,h7)
theorem f98_w1_eq (k:Nat)(retF:(List HE)→R)(p1:PV)(p2:PV)(n6:Int)(h7:List HE):f98_w1A k retF p1 p2 n6 h7=f98_w1N k (fun y0=>retF y0) p1 p2 n6 h7 :=
 Eq.mp (by kernel_rfl) (loop_sim (E:=(f98_E k)) (c:=f98_cw1) (K:=(kont (f98_E k) f98_code [1,0] (endK (f98_E k) Try.f98 [1000000000000] f98_un retF))) (S:=Int × (List HE)) (fun s=>f98_hw1_0 p1 p2 s.1 s.2) (f98_w1B k (fun y0=>retF y0) p1 p2) (fun NX s=>by
  exact Eq.mp (by kernel_rfl) (f98_w1b0_eq k retF NX p1 p2 s.1 s.2)) k (n6,h7))

noncomputable def f98_e (ret0:(List HE)→R)(w1:Int→(List HE)→R)(p1:PV)(p2:PV)(h3:List HE):R :=
 w1 0 h3

theorem f98_e_mem (k:Nat)(retF:(List HE)→R)(p1:PV)(p2:PV)(h3:List HE):exec (f98_E k) f98_code (endK (f98_E k) Try.f98 [1000000000000] f98_un retF) ⟨[.hval 118 p1,.hval 118 p2,.undef,.undef,.undef,.undef,.undef,.undef,.undef,.undef,.undef,.undef,.undef,.undef,.undef,.undef,.undef,.undef,.undef,.undef,.undef,.undef],[(1000000000000,.hp h3)]⟩=f98_e (fun y0=>retF y0) (fun n6 h7=>f98_w1A k retF p1 p2 n6 h7) p1 p2 h3:=by kernel_rfl

noncomputable def f98_N (k:Nat)(ret0:(List HE)→R)(p1:PV)(p2:PV)(h3:List HE):R :=
 f98_e ret0 (fun n6 h7=>f98_w1N k ret0 p1 p2 n6 h7) p1 p2 h3
theorem f98_eq (k:Nat)(retF:(List HE)→R)(p1:PV)(p2:PV)(h3:List HE):exec (f98_E k) f98_code (endK (f98_E k) Try.f98 [1000000000000] f98_un retF) ⟨[.hval 118 p1,.hval 118 p2,.undef,.undef,.undef,.undef,.undef,.undef,.undef,.undef,.undef,.undef,.undef,.undef,.undef,.undef,.undef,.undef,.undef,.undef,.undef,.undef],[(1000000000000,.hp h3)]⟩=f98_N k (fun y0=>retF y0) p1 p2 h3 :=
 (f98_e_mem k retF p1 p2 h3).trans (by rw [show (fun n6 h7=>f98_w1A k retF p1 p2 n6 h7)=(fun n6 h7=>f98_w1N k (fun y0=>retF y0) p1 p2 n6 h7) from funext fun n6=>funext fun h7=>f98_w1_eq k retF p1 p2 n6 h7];rfl)

noncomputable def G98:Nat→PV→PV→(List HE)→((List HE)→R)→R
 | 0,_,_,_,_=>none
 | k+1,p1,p2,h3,ret0=>f98_N k  ret0 p1 p2 h3
theorem S98:∀ k,Snd Try.prog 98 f98_I f98_O (fun x ret=>G98 k x.1 x.2.1 x.2.2 (fun y0=>ret y0))
 | 0=>snd_none
 | k+1=>snd_step (E:=f98_E k ) rfl laidOut noNums orc0_ok (f:=98) (fn:=Try.f98) (code:=f98_code) Try.func98 (by kernel_rfl) (drawsOk_of laidOut orc0_ok mixed (by kernel_rfl)) f98_un f98_un_ok [1000000000000] (fun _=>rfl)
   (fun x ret=>f98_eq k  ret x.1 x.2.1 x.2.2)

noncomputable def f74_I:PV × Int × Int × (List HE)→List SV × Obs:=fun x=>([.hval 87 x.1,.int .i64 x.2.1,.int .i64 x.2.2.1],[(1000000000000,.hp x.2.2.2)])
noncomputable def f74_D:List SV→Obs→Option (PV × Int × Int × (List HE))
 | [.hval 87 p1,.int .i64 n2,.int .i64 n3],[(1000000000000,.hp h4)]=>some (p1,n2,n3,h4)
 | _,_=>none
theorem f74_D_ok (args:List SV)(B:Obs)(x:PV × Int × Int × (List HE))(h:f74_D args B=some x):f74_I x=(args,B):=by
 unfold f74_D at h
 split at h
 ·injection h with h;subst h;rfl
 ·cases h
noncomputable def f74_O:PV × (List HE)→Out:=(fun y=>([.hval 118 y.1],[(1000000000000,.hp y.2)]))
noncomputable def f74_un:Out→Option (PV × (List HE))
 | ([.hval 118 y0],[(1000000000000,.hp y1)])=>some (y0,y1)
 | _=>none
theorem f74_un_ok (o:Out)(y:PV × (List HE))(h:f74_un o=some y):o=f74_O y:=by
 unfold f74_un at h
 split at h
 ·injection h with h;subst h;rfl
 ·cases h
noncomputable def f74_msk:Nat→Option (List Nat):=fun key=>bif key==51 then some [0,1,2,8,9,10,11] else bif key==81 then some [0,1,2,8,9,12] else none
noncomputable def f74_C (c74:Ch_8)(c75:Ch_9)(c96:Ch_10)(c97:Ch_2)(c98:Ch_11):Oracle:=orc 74 f74_D f74_O (fun x ret=>c74 x.1 x.2.1 x.2.2.1 x.2.2.2 (fun y0 y1=>ret (y0,y1))) <| orc 75 f75_D f75_O (fun x ret=>c75 x.1 x.2.1 x.2.2 (fun y0 y1=>ret (y0,y1))) <| orc 96 f96_D f96_O (fun x ret=>c96 x.1 x.2.1 x.2.2 (fun y0=>ret y0)) <| orc 97 f97_D f97_O (fun x ret=>c97 x.1 x.2 (fun y0=>ret y0)) <| orc 98 f98_D f98_O (fun x ret=>c98 x.1 x.2.1 x.2.2 (fun y0=>ret y0)) <| orc0
noncomputable def f74_E (k:Nat)(c74:Ch_8)(c75:Ch_9)(c96:Ch_10)(c97:Ch_2)(c98:Ch_11):Env:={ P:=Try.prog,nilOwn:=fun d=>false,fldOwn:=fun d i=>false,ownPar:=ownPars,ownRet:=false,hpD:=fun d=>d==32 || d==48,hpF:=hpFs,hpNew:=false,mask:=f74_msk,fuel:=k,C:=f74_C c74 c75 c96 c97 c98 }
noncomputable def f74_code:Code:=Try.f74.body.getD .skip
noncomputable def f74_cw1:Code:=subC f74_code [1,1,1,1,1,0,1,0,1,1,1,1,1,0,1,1,0,0]
noncomputable def f74_hw1_0 (p1:PV)(n2:Int)(n3:Int)(h6:List HE)(h8:List HE)(p19:PV)(n28:Int)(h29:List HE):St:=⟨[.hval 87 p1,.int .i64 n2,.int .i64 n3,.dead,.dead,.dead,.dead,.dead,.hptr 151 (List.length h6) [],.hptr 122 (PV.rI (PV.fld (hvarOf h8 (PV.rI p1)) 0)) [.el n2],.hval 118 p19,.int .i64 n28,.dead,.dead,.dead,.dead,.dead,.dead,.dead,.dead,.dead,.dead,.dead,.dead,.dead,.dead,.dead,.dead,.dead,.dead,.dead,.dead,.dead,.dead,.dead,.dead,.dead,.dead,.dead,.dead,.dead,.dead,.dead,.dead,.dead,.dead,.dead,.dead,.dead,.dead,.dead,.dead,.dead,.dead,.dead,.dead,.dead,.dead,.dead,.dead,.dead,.dead,.dead,.dead,.dead,.dead,.dead,.dead,.dead,.dead,.dead,.dead,.dead,.dead,.dead,.dead,.dead,.dead,.dead,.dead,.dead,.dead,.dead,.dead,.dead,.dead,.dead,.dead,.dead,.dead,.dead,.dead,.dead,.dead,.dead,.dead,.dead,.dead,.dead,.dead,.dead,.dead,.dead,.dead,.dead,.dead,.dead,.dead,.dead,.dead,.dead,.dead,.dead,.dead,.dead,.dead,.dead,.dead,.dead,.dead,.dead,.dead,.dead,.dead,.dead,.dead,.dead,.dead,.dead,.dead,.dead,.dead,.dead,.dead,.dead,.dead,.dead,.dead,.dead,.dead,.dead,.dead,.dead,.dead,.dead,.dead,.dead,.dead,.dead,.dead,.dead,.dead,.dead,.dead,.dead,.dead,.dead,.dead,.dead,.dead,.dead,.dead,.dead,.dead,.dead,.dead,.dead,.dead,.dead,.dead,.dead,.dead,.dead,.dead,.dead,.dead,.dead,.dead,.dead,.dead,.dead,.dead,.dead,.dead,.dead,.dead,.dead,.dead,.dead,.dead,.dead,.dead,.dead,.dead,.dead,.dead,.dead,.dead,.dead,.dead,.dead,.dead,.dead,.dead,.dead,.dead],[(1000000000000,.hp h29)]⟩
noncomputable def f74_w1A (k:Nat)(c74:Ch_8)(c75:Ch_9)(c96:Ch_10)(c97:Ch_2)(c98:Ch_11)(retF:PV × (List HE)→R)(p1:PV)(n2:Int)(n3:Int)(h6:List HE)(h8:List HE)(p19:PV)(n28:Int)(h29:List HE):R:=loopM (f74_E k c74 c75 c96 c97 c98) f74_cw1 (kont (f74_E k c74 c75 c96 c97 c98) f74_code [1,1,1,1,1,0,1,0,1,1,1,1,1,0,1,1,0] (endK (f74_E k c74 c75 c96 c97 c98) Try.f74 [1000000000000] f74_un retF)) k (f74_hw1_0 p1 n2 n3 h6 h8 p19 n28 h29)
noncomputable def f74_w1b0 (c74:Ch_8)(c75:Ch_9)(c96:Ch_10)(c97:Ch_2)(c98:Ch_11)(ret0:PV→(List HE)→R)(next_w1_0:Int→(List HE)→R)(p1:PV)(n2:Int)(n3:Int)(h6:List HE)(h8:List HE)(p19:PV)(n28:Int)(h29:List HE):R :=
 bif (PV.isRp p1) then
 bif (true&&true&&(hokV h29 116 (PV.rI p1))) then
 bif (decide (n28≤(List.length (PV.els (PV.fld (hvarOf h29 (PV.rI p1)) 1)):Int))) then
 c75 p19 n28 h29 fun b30 h31 =>
 bif b30 then
 bif (true&&true&&(hokR h31 122 (PV.rI (PV.fld (hvarOf h8 (PV.rI p1)) 0)) n2)) then
 bif (true&&decide ((0:Int)≤(1:Int))&&decide ((1:Int) < ((PV.rN (PV.fld (List.getD (hrowOf h31 (PV.rI (PV.fld (hvarOf h8 (PV.rI p1)) 0))) (n2).toNat PV.nil) 1)):Int))) then
 bif (true&&true&&(hokR h31 3 (PV.rI (PV.fld (List.getD (hrowOf h31 (PV.rI (PV.fld (hvarOf h8 (PV.rI p1)) 0))) (n2).toNat PV.nil) 1)) (1:Int))) then
 let n32:Int:=(PV.num (List.getD (hrowOf h31 (PV.rI (PV.fld (List.getD (hrowOf h31 (PV.rI (PV.fld (hvarOf h8 (PV.rI p1)) 0))) (n2).toNat PV.nil) 1))) ((1:Int)).toNat PV.nil))
 c74 p1 n32 n28 h31 fun p33 h34 =>
 c98 (PV.rp (List.length h6)) p33 h34 fun h35 =>
 next_w1_0 (IntKind.wrap .i64 (n28+(1:Int))) h35
 else none
 else none
 else none
 else next_w1_0 (IntKind.wrap .i64 (n28+(1:Int))) h31
 else bif (PV.isRp p1) then
 bif (true&&true&&(hokV h29 116 (PV.rI p1))) then
 bif (true&&decide ((0:Int)≤n2)&&decide (n2 < ((PV.rN (PV.fld (hvarOf h29 (PV.rI p1)) 2)):Int))) then
 bif (true&&true&&(hokR h29 149 (PV.rI (PV.fld (hvarOf h29 (PV.rI p1)) 2)) n2)) then
 bif (true&&decide ((0:Int)≤n3)&&decide (n3 < ((PV.rN (List.getD (hrowOf h29 (PV.rI (PV.fld (hvarOf h29 (PV.rI p1)) 2))) (n2).toNat PV.nil)):Int))) then
 bif (true&&(hokR h29 118 (PV.rI (List.getD (hrowOf h29 (PV.rI (PV.fld (hvarOf h29 (PV.rI p1)) 2))) (n2).toNat PV.nil)) n3)) then
 let h36:List HE:=(List.set h29 (PV.rI (List.getD (hrowOf h29 (PV.rI (PV.fld (hvarOf h29 (PV.rI p1)) 2))) (n2).toNat PV.nil)) (HE.row 118 (List.set (hrowOf h29 (PV.rI (List.getD (hrowOf h29 (PV.rI (PV.fld (hvarOf h29 (PV.rI p1)) 2))) (n2).toNat PV.nil))) (n3).toNat (PV.rp (List.length h6)))))
 ret0 (PV.rp (List.length h6)) h36
 else none
 else none
 else none
 else none
 else none
 else none
 else none
 else none

theorem f74_w1b0_mem (k:Nat)(c74:Ch_8)(c75:Ch_9)(c96:Ch_10)(c97:Ch_2)(c98:Ch_11)(retF:PV × (List HE)→R)(NX_w1:St→R)(p1:PV)(n2:Int)(n3:Int)(h6:List HE)(h8:List HE)(p19:PV)(n28:Int)(h29:List HE):exec (f74_E k c74 c75 c96 c97 c98) f74_cw1 (purgeK (f74_E k c74 c75 c96 c97 c98) f74_cw1 (loopK NX_w1 (kont (f74_E k c74 c75 c96 c97 c98) f74_code [1,1,1,1,1,0,1,0,1,1,1,1,1,0,1,1,0] (endK (f74_E k c74 c75 c96 c97 c98) Try.f74 [1000000000000] f74_un retF)))) (f74_hw1_0 p1 n2 n3 h6 h8 p19 n28 h29)=f74_w1b0 c74 c75 c96 c97 c98 (fun y0 y1=>retF (y0,y1)) (fun n28 h29=>NX_w1 (f74_hw1_0 p1 n2 n3 h6 h8 p19 n28 h29)) p1 n2 n3 h6 h8 p19 n28 h29:=by kernel_rfl

noncomputable def f74_w1b0N (k:Nat)(c74:Ch_8)(c75:Ch_9)(c96:Ch_10)(c97:Ch_2)(c98:Ch_11)(ret0:PV→(List HE)→R)(next_w1_0:Int→(List HE)→R)(p1:PV)(n2:Int)(n3:Int)(h6:List HE)(h8:List HE)(p19:PV)(n28:Int)(h29:List HE):R :=
 f74_w1b0 c74 c75 c96 c97 c98 ret0 next_w1_0 p1 n2 n3 h6 h8 p19 n28 h29
theorem f74_w1b0_eq (k:Nat)(c74:Ch_8)(c75:Ch_9)(c96:Ch_10)(c97:Ch_2)(c98:Ch_11)(retF:PV × (List HE)→R)(NX_w1:St→R)(p1:PV)(n2:Int)(n3:Int)(h6:List HE)(h8:List HE)(p19:PV)(n28:Int)(h29:List HE):exec (f74_E k c74 c75 c96 c97 c98) f74_cw1 (purgeK (f74_E k c74 c75 c96 c97 c98) f74_cw1 (loopK NX_w1 (kont (f74_E k c74 c75 c96 c97 c98) f74_code [1,1,1,1,1,0,1,0,1,1,1,1,1,0,1,1,0] (endK (f74_E k c74 c75 c96 c97 c98) Try.f74 [1000000000000] f74_un retF)))) (f74_hw1_0 p1 n2 n3 h6 h8 p19 n28 h29)=f74_w1b0N k c74 c75 c96 c97 c98 (fun y0 y1=>retF (y0,y1)) (fun n28 h29=>NX_w1 (f74_hw1_0 p1 n2 n3 h6 h8 p19 n28 h29)) p1 n2 n3 h6 h8 p19 n28 h29 :=
 (f74_w1b0_mem k c74 c75 c96 c97 c98 retF NX_w1 p1 n2 n3 h6 h8 p19 n28 h29)

noncomputable def f74_w1B (k:Nat)(c74:Ch_8)(c75:Ch_9)(c96:Ch_10)(c97:Ch_2)(c98:Ch_11)(ret0:PV→(List HE)→R)(p1:PV)(n2:Int)(n3:Int)(h6:List HE)(h8:List HE)(p19:PV)(nx:Int × (List HE)→R):Int × (List HE)→R:=(fun s=>f74_w1b0N k c74 c75 c96 c97 c98 ret0 (fun n28 h29=>nx (n28,h29)) p1 n2 n3 h6 h8 p19 s.1 s.2)
noncomputable def f74_w1N (k:Nat)(c74:Ch_8)(c75:Ch_9)(c96:Ch_10)(c97:Ch_2)(c98:Ch_11)(ret0:PV→(List HE)→R)(p1:PV)(n2:Int)(n3:Int)(h6:List HE)(h8:List HE)(p19:PV)(n28:Int)(h29:List HE):R:=loopR (f74_w1B k c74 c75 c96 c97 c98 ret0 p1 n2 n3 h6 h8 p19) k (n28,h29)
theorem f74_w1_eq (k:Nat)(c74:Ch_8)(c75:Ch_9)(c96:Ch_10)(c97:Ch_2)(c98:Ch_11)(retF:PV × (List HE)→R)(p1:PV)(n2:Int)(n3:Int)(h6:List HE)(h8:List HE)(p19:PV)(n28:Int)(h29:List HE):f74_w1A k c74 c75 c96 c97 c98 retF p1 n2 n3 h6 h8 p19 n28 h29=f74_w1N k c74 c75 c96 c97 c98 (fun y0 y1=>retF (y0,y1)) p1 n2 n3 h6 h8 p19 n28 h29 :=
 Eq.mp (by kernel_rfl) (loop_sim (E:=(f74_E k c74 c75 c96 c97 c98)) (c:=f74_cw1) (K:=(kont (f74_E k c74 c75 c96 c97 c98) f74_code [1,1,1,1,1,0,1,0,1,1,1,1,1,0,1,1,0] (endK (f74_E k c74 c75 c96 c97 c98) Try.f74 [1000000000000] f74_un retF))) (S:=Int × (List HE)) (fun s=>f74_hw1_0 p1 n2 n3 h6 h8 p19 s.1 s.2) (f74_w1B k c74 c75 c96 c97 c98 (fun y0 y1=>retF (y0,y1)) p1 n2 n3 h6 h8 p19) (fun NX s=>by
  exact Eq.mp (by kernel_rfl) (f74_w1b0_eq k c74 c75 c96 c97 c98 retF NX p1 n2 n3 h6 h8 p19 s.1 s.2)) k (n28,h29))

noncomputable def f74_cw2:Code:=subC f74_code [1,1,1,1,1,0,1,0,1,1,1,1,1,1,1,1,1,0,1,1,0,0]
noncomputable def f74_hw2_0 (p1:PV)(n2:Int)(n3:Int)(h6:List HE)(h8:List HE)(n54:Int)(h55:List HE):St:=⟨[.hval 87 p1,.int .i64 n2,.int .i64 n3,.dead,.dead,.dead,.dead,.dead,.hptr 151 (List.length h6) [],.hptr 122 (PV.rI (PV.fld (hvarOf h8 (PV.rI p1)) 0)) [.el n2],.dead,.dead,.int .i64 n54,.dead,.dead,.dead,.dead,.dead,.dead,.dead,.dead,.dead,.dead,.dead,.dead,.dead,.dead,.dead,.dead,.dead,.dead,.dead,.dead,.dead,.dead,.dead,.dead,.dead,.dead,.dead,.dead,.dead,.dead,.dead,.dead,.dead,.dead,.dead,.dead,.dead,.dead,.dead,.dead,.dead,.dead,.dead,.dead,.dead,.dead,.dead,.dead,.dead,.dead,.dead,.dead,.dead,.dead,.dead,.dead,.dead,.dead,.dead,.dead,.dead,.dead,.dead,.dead,.dead,.dead,.dead,.dead,.dead,.dead,.dead,.dead,.dead,.dead,.dead,.dead,.dead,.dead,.dead,.dead,.dead,.dead,.dead,.dead,.dead,.dead,.dead,.dead,.dead,.dead,.dead,.dead,.dead,.dead,.dead,.dead,.dead,.dead,.dead,.dead,.dead,.dead,.dead,.dead,.dead,.dead,.dead,.dead,.dead,.dead,.dead,.dead,.dead,.dead,.dead,.dead,.dead,.dead,.dead,.dead,.dead,.dead,.dead,.dead,.dead,.dead,.dead,.dead,.dead,.dead,.dead,.dead,.dead,.dead,.dead,.dead,.dead,.dead,.dead,.dead,.dead,.dead,.dead,.dead,.dead,.dead,.dead,.dead,.dead,.dead,.dead,.dead,.dead,.dead,.dead,.dead,.dead,.dead,.dead,.dead,.dead,.dead,.dead,.dead,.dead,.dead,.dead,.dead,.dead,.dead,.dead,.dead,.dead,.dead,.dead,.dead,.dead,.dead,.dead,.dead,.dead,.dead,.dead,.dead,.dead,.dead,.dead,.dead,.dead,.dead,.dead,.dead,.dead],[(1000000000000,.hp h55)]⟩
noncomputable def f74_w2A (k:Nat)(c74:Ch_8)(c75:Ch_9)(c96:Ch_10)(c97:Ch_2)(c98:Ch_11)(retF:PV × (List HE)→R)(p1:PV)(n2:Int)(n3:Int)(h6:List HE)(h8:List HE)(n54:Int)(h55:List HE):R:=loopM (f74_E k c74 c75 c96 c97 c98) f74_cw2 (kont (f74_E k c74 c75 c96 c97 c98) f74_code [1,1,1,1,1,0,1,0,1,1,1,1,1,1,1,1,1,0,1,1,0] (endK (f74_E k c74 c75 c96 c97 c98) Try.f74 [1000000000000] f74_un retF)) k (f74_hw2_0 p1 n2 n3 h6 h8 n54 h55)
noncomputable def f74_w2b0 (c74:Ch_8)(c75:Ch_9)(c96:Ch_10)(c97:Ch_2)(c98:Ch_11)(ret0:PV→(List HE)→R)(next_w2_0:Int→(List HE)→R)(p1:PV)(n2:Int)(n3:Int)(h6:List HE)(h8:List HE)(n54:Int)(h55:List HE):R :=
 bif (PV.isRp p1) then
 bif (true&&true&&(hokV h55 116 (PV.rI p1))) then
 bif (decide (n54≤(List.length (PV.els (PV.fld (hvarOf h55 (PV.rI p1)) 1)):Int))) then
 c75 (PV.rp (List.length h6)) n54 h55 fun b56 h57 =>
 bif b56 then
 bif (true&&true&&(hokR h57 122 (PV.rI (PV.fld (hvarOf h8 (PV.rI p1)) 0)) n2)) then
 bif (true&&decide ((0:Int)≤(0:Int))&&decide ((0:Int) < ((PV.rN (PV.fld (List.getD (hrowOf h57 (PV.rI (PV.fld (hvarOf h8 (PV.rI p1)) 0))) (n2).toNat PV.nil) 1)):Int))) then
 bif (true&&true&&(hokR h57 3 (PV.rI (PV.fld (List.getD (hrowOf h57 (PV.rI (PV.fld (hvarOf h8 (PV.rI p1)) 0))) (n2).toNat PV.nil) 1)) (0:Int))) then
 let n58:Int:=(PV.num (List.getD (hrowOf h57 (PV.rI (PV.fld (List.getD (hrowOf h57 (PV.rI (PV.fld (hvarOf h8 (PV.rI p1)) 0))) (n2).toNat PV.nil) 1))) ((0:Int)).toNat PV.nil))
 c74 p1 n58 n54 h57 fun p59 h60 =>
 c98 (PV.rp (List.length h6)) p59 h60 fun h61 =>
 next_w2_0 (IntKind.wrap .i64 (n54+(1:Int))) h61
 else none
 else none
 else none
 else next_w2_0 (IntKind.wrap .i64 (n54+(1:Int))) h57
 else bif (PV.isRp p1) then
 bif (true&&true&&(hokV h55 116 (PV.rI p1))) then
 bif (true&&decide ((0:Int)≤n2)&&decide (n2 < ((PV.rN (PV.fld (hvarOf h55 (PV.rI p1)) 2)):Int))) then
 bif (true&&true&&(hokR h55 149 (PV.rI (PV.fld (hvarOf h55 (PV.rI p1)) 2)) n2)) then
 bif (true&&decide ((0:Int)≤n3)&&decide (n3 < ((PV.rN (List.getD (hrowOf h55 (PV.rI (PV.fld (hvarOf h55 (PV.rI p1)) 2))) (n2).toNat PV.nil)):Int))) then
 bif (true&&(hokR h55 118 (PV.rI (List.getD (hrowOf h55 (PV.rI (PV.fld (hvarOf h55 (PV.rI p1)) 2))) (n2).toNat PV.nil)) n3)) then
 let h62:List HE:=(List.set h55 (PV.rI (List.getD (hrowOf h55 (PV.rI (PV.fld (hvarOf h55 (PV.rI p1)) 2))) (n2).toNat PV.nil)) (HE.row 118 (List.set (hrowOf h55 (PV.rI (List.getD (hrowOf h55 (PV.rI (PV.fld (hvarOf h55 (PV.rI p1)) 2))) (n2).toNat PV.nil))) (n3).toNat (PV.rp (List.length h6)))))
 ret0 (PV.rp (List.length h6)) h62
 else none
 else none
 else none
 else none
 else none
 else none
 else none
 else none

theorem f74_w2b0_mem (k:Nat)(c74:Ch_8)(c75:Ch_9)(c96:Ch_10)(c97:Ch_2)(c98:Ch_11)(retF:PV × (List HE)→R)(NX_w2:St→R)(p1:PV)(n2:Int)(n3:Int)(h6:List HE)(h8:List HE)(n54:Int)(h55:List HE):exec (f74_E k c74 c75 c96 c97 c98) f74_cw2 (purgeK (f74_E k c74 c75 c96 c97 c98) f74_cw2 (loopK NX_w2 (kont (f74_E k c74 c75 c96 c97 c98) f74_code [1,1,1,1,1,0,1,0,1,1,1,1,1,1,1,1,1,0,1,1,0] (endK (f74_E k c74 c75 c96 c97 c98) Try.f74 [1000000000000] f74_un retF)))) (f74_hw2_0 p1 n2 n3 h6 h8 n54 h55)=f74_w2b0 c74 c75 c96 c97 c98 (fun y0 y1=>retF (y0,y1)) (fun n54 h55=>NX_w2 (f74_hw2_0 p1 n2 n3 h6 h8 n54 h55)) p1 n2 n3 h6 h8 n54 h55:=by kernel_rfl

noncomputable def f74_w2b0N (k:Nat)(c74:Ch_8)(c75:Ch_9)(c96:Ch_10)(c97:Ch_2)(c98:Ch_11)(ret0:PV→(List HE)→R)(next_w2_0:Int→(List HE)→R)(p1:PV)(n2:Int)(n3:Int)(h6:List HE)(h8:List HE)(n54:Int)(h55:List HE):R :=
 f74_w2b0 c74 c75 c96 c97 c98 ret0 next_w2_0 p1 n2 n3 h6 h8 n54 h55
theorem f74_w2b0_eq (k:Nat)(c74:Ch_8)(c75:Ch_9)(c96:Ch_10)(c97:Ch_2)(c98:Ch_11)(retF:PV × (List HE)→R)(NX_w2:St→R)(p1:PV)(n2:Int)(n3:Int)(h6:List HE)(h8:List HE)(n54:Int)(h55:List HE):exec (f74_E k c74 c75 c96 c97 c98) f74_cw2 (purgeK (f74_E k c74 c75 c96 c97 c98) f74_cw2 (loopK NX_w2 (kont (f74_E k c74 c75 c96 c97 c98) f74_code [1,1,1,1,1,0,1,0,1,1,1,1,1,1,1,1,1,0,1,1,0] (endK (f74_E k c74 c75 c96 c97 c98) Try.f74 [1000000000000] f74_un retF)))) (f74_hw2_0 p1 n2 n3 h6 h8 n54 h55)=f74_w2b0N k c74 c75 c96 c97 c98 (fun y0 y1=>retF (y0,y1)) (fun n54 h55=>NX_w2 (f74_hw2_0 p1 n2 n3 h6 h8 n54 h55)) p1 n2 n3 h6 h8 n54 h55 :=
 (f74_w2b0_mem k c74 c75 c96 c97 c98 retF NX_w2 p1 n2 n3 h6 h8 n54 h55)

noncomputable def f74_w2B (k:Nat)(c74:Ch_8)(c75:Ch_9)(c96:Ch_10)(c97:Ch_2)(c98:Ch_11)(ret0:PV→(List HE)→R)(p1:PV)(n2:Int)(n3:Int)(h6:List HE)(h8:List HE)(nx:Int × (List HE)→R):Int × (List HE)→R:=(fun s=>f74_w2b0N k c74 c75 c96 c97 c98 ret0 (fun n54 h55=>nx (n54,h55)) p1 n2 n3 h6 h8 s.1 s.2)
noncomputable def f74_w2N (k:Nat)(c74:Ch_8)(c75:Ch_9)(c96:Ch_10)(c97:Ch_2)(c98:Ch_11)(ret0:PV→(List HE)→R)(p1:PV)(n2:Int)(n3:Int)(h6:List HE)(h8:List HE)(n54:Int)(h55:List HE):R:=loopR (f74_w2B k c74 c75 c96 c97 c98 ret0 p1 n2 n3 h6 h8) k (n54,h55)
theorem f74_w2_eq (k:Nat)(c74:Ch_8)(c75:Ch_9)(c96:Ch_10)(c97:Ch_2)(c98:Ch_11)(retF:PV × (List HE)→R)(p1:PV)(n2:Int)(n3:Int)(h6:List HE)(h8:List HE)(n54:Int)(h55:List HE):f74_w2A k c74 c75 c96 c97 c98 retF p1 n2 n3 h6 h8 n54 h55=f74_w2N k c74 c75 c96 c97 c98 (fun y0 y1=>retF (y0,y1)) p1 n2 n3 h6 h8 n54 h55 :=
 Eq.mp (by kernel_rfl) (loop_sim (E:=(f74_E k c74 c75 c96 c97 c98)) (c:=f74_cw2) (K:=(kont (f74_E k c74 c75 c96 c97 c98) f74_code [1,1,1,1,1,0,1,0,1,1,1,1,1,1,1,1,1,0,1,1,0] (endK (f74_E k c74 c75 c96 c97 c98) Try.f74 [1000000000000] f74_un retF))) (S:=Int × (List HE)) (fun s=>f74_hw2_0 p1 n2 n3 h6 h8 s.1 s.2) (f74_w2B k c74 c75 c96 c97 c98 (fun y0 y1=>retF (y0,y1)) p1 n2 n3 h6 h8) (fun NX s=>by
  exact Eq.mp (by kernel_rfl) (f74_w2b0_eq k c74 c75 c96 c97 c98 retF NX p1 n2 n3 h6 h8 s.1 s.2)) k (n54,h55))

noncomputable def f74_e (c74:Ch_8)(c75:Ch_9)(c96:Ch_10)(c97:Ch_2)(c98:Ch_11)(ret0:PV→(List HE)→R)(w1:(List HE)→(List HE)→PV→Int→(List HE)→R)(w2:(List HE)→(List HE)→Int→(List HE)→R)(p1:PV)(n2:Int)(n3:Int)(h4:List HE):R :=
 bif (PV.isRp p1) then
 bif (true&&true&&(hokV h4 116 (PV.rI p1))) then
 bif (true&&decide ((0:Int)≤n2)&&decide (n2 < ((PV.rN (PV.fld (hvarOf h4 (PV.rI p1)) 2)):Int))) then
 bif (true&&true&&(hokR h4 149 (PV.rI (PV.fld (hvarOf h4 (PV.rI p1)) 2)) n2)) then
 bif (!(PV.isRs (List.getD (hrowOf h4 (PV.rI (PV.fld (hvarOf h4 (PV.rI p1)) 2))) (n2).toNat PV.nil))) then
 bif (PV.isRp p1) then
 bif (true&&true&&(hokV h4 116 (PV.rI p1))) then
 bif (PV.isRp p1) then
 bif (true&&true&&(hokV h4 116 (PV.rI p1))) then
 bif (true&&(true&&decide ((0:Int)≤(IntKind.wrap .i64 ((List.length (PV.els (PV.fld (hvarOf h4 (PV.rI p1)) 1)):Int)+(1:Int))))&&decide ((IntKind.wrap .i64 ((List.length (PV.els (PV.fld (hvarOf h4 (PV.rI p1)) 1)):Int)+(1:Int)))=(IntKind.wrap .i64 ((List.length (PV.els (PV.fld (hvarOf h4 (PV.rI p1)) 1)):Int)+(1:Int))))&&roomy ((IntKind.wrap .i64 ((List.length (PV.els (PV.fld (hvarOf h4 (PV.rI p1)) 1)):Int)+(1:Int)))).toNat 8)) then
 bif (true&&decide ((0:Int)≤n2)&&decide (n2 < ((PV.rN (PV.fld (hvarOf h4 (PV.rI p1)) 2)):Int))) then
 let h5:List HE:=(h4++[HE.row 118 (List.replicate ((IntKind.wrap .i64 ((List.length (PV.els (PV.fld (hvarOf h4 (PV.rI p1)) 1)):Int)+(1:Int)))).toNat PV.nil)])
 bif (true&&(hokR h5 149 (PV.rI (PV.fld (hvarOf h4 (PV.rI p1)) 2)) n2)) then
 let h6:List HE:=(List.set h5 (PV.rI (PV.fld (hvarOf h4 (PV.rI p1)) 2)) (HE.row 149 (List.set (hrowOf h5 (PV.rI (PV.fld (hvarOf h4 (PV.rI p1)) 2))) (n2).toNat (PV.rs (List.length h4) ((IntKind.wrap .i64 ((List.length (PV.els (PV.fld (hvarOf h4 (PV.rI p1)) 1)):Int)+(1:Int)))).toNat))))
 bif (PV.isRp p1) then
 bif (true&&true&&(hokV h6 116 (PV.rI p1))) then
 bif (true&&decide ((0:Int)≤n2)&&decide (n2 < ((PV.rN (PV.fld (hvarOf h6 (PV.rI p1)) 2)):Int))) then
 bif (true&&true&&(hokR h6 149 (PV.rI (PV.fld (hvarOf h6 (PV.rI p1)) 2)) n2)) then
 bif (true&&decide ((0:Int)≤n3)&&decide (n3 < ((PV.rN (List.getD (hrowOf h6 (PV.rI (PV.fld (hvarOf h6 (PV.rI p1)) 2))) (n2).toNat PV.nil)):Int))) then
 bif (true&&true&&(hokR h6 118 (PV.rI (List.getD (hrowOf h6 (PV.rI (PV.fld (hvarOf h6 (PV.rI p1)) 2))) (n2).toNat PV.nil)) n3)) then
 let p7:PV:=(List.getD (hrowOf h6 (PV.rI (List.getD (hrowOf h6 (PV.rI (PV.fld (hvarOf h6 (PV.rI p1)) 2))) (n2).toNat PV.nil))) (n3).toNat PV.nil)
 bif (!(PV.isNil p7)) then
 ret0 p7 h6
 else let h8:List HE:=(h6++[HE.var 151 (PV.agg [(PV.int 0),(PV.int 0),(PV.int 0),(PV.int 0),(PV.int 0)])])
 bif (PV.isRp p1) then
 bif (true&&true&&(hokV h8 116 (PV.rI p1))) then
 bif (true&&decide ((0:Int)≤n2)&&decide (n2 < ((PV.rN (PV.fld (hvarOf h8 (PV.rI p1)) 0)):Int))) then
 bif (true&&true&&(hokR h8 122 (PV.rI (PV.fld (hvarOf h8 (PV.rI p1)) 0)) n2)) then
 let n9:Int:=(PV.num (PV.fld (PV.fld (List.getD (hrowOf h8 (PV.rI (PV.fld (hvarOf h8 (PV.rI p1)) 0))) (n2).toNat PV.nil) 0) 0))
 bif (decide (n9=(1:Int))) then
 c96 (PV.rp (List.length h6)) n3 h8 fun h10 =>
 bif (PV.isRp p1) then
 bif (true&&true&&(hokV h10 116 (PV.rI p1))) then
 bif (true&&decide ((0:Int)≤n2)&&decide (n2 < ((PV.rN (PV.fld (hvarOf h10 (PV.rI p1)) 2)):Int))) then
 bif (true&&true&&(hokR h10 149 (PV.rI (PV.fld (hvarOf h10 (PV.rI p1)) 2)) n2)) then
 bif (true&&decide ((0:Int)≤n3)&&decide (n3 < ((PV.rN (List.getD (hrowOf h10 (PV.rI (PV.fld (hvarOf h10 (PV.rI p1)) 2))) (n2).toNat PV.nil)):Int))) then
 bif (true&&(hokR h10 118 (PV.rI (List.getD (hrowOf h10 (PV.rI (PV.fld (hvarOf h10 (PV.rI p1)) 2))) (n2).toNat PV.nil)) n3)) then
 let h11:List HE:=(List.set h10 (PV.rI (List.getD (hrowOf h10 (PV.rI (PV.fld (hvarOf h10 (PV.rI p1)) 2))) (n2).toNat PV.nil)) (HE.row 118 (List.set (hrowOf h10 (PV.rI (List.getD (hrowOf h10 (PV.rI (PV.fld (hvarOf h10 (PV.rI p1)) 2))) (n2).toNat PV.nil))) (n3).toNat (PV.rp (List.length h6)))))
 ret0 (PV.rp (List.length h6)) h11
 else none
 else none
 else none
 else none
 else none
 else none
 else bif (decide (n9=(2:Int))) then
 bif (PV.isRp p1) then
 bif (true&&true&&(hokV h8 116 (PV.rI p1))) then
 bif ((decide (n3 < (List.length (PV.els (PV.fld (hvarOf h8 (PV.rI p1)) 1)):Int)))==true) then
 bif (true&&true&&(hokR h8 122 (PV.rI (PV.fld (hvarOf h8 (PV.rI p1)) 0)) n2)) then
 let p12:PV:=(PV.fld (PV.fld (List.getD (hrowOf h8 (PV.rI (PV.fld (hvarOf h8 (PV.rI p1)) 0))) (n2).toNat PV.nil) 0) 1)
 bif (PV.isRp p1) then
 bif (true&&true&&(hokV h8 116 (PV.rI p1))) then
 bif (true&&decide ((0:Int)≤n3)&&decide (n3 < (List.length (PV.els (PV.fld (hvarOf h8 (PV.rI p1)) 1)):Int))) then
 c97 p12 (PV.num (List.getD (PV.els (PV.fld (hvarOf h8 (PV.rI p1)) 1)) (n3).toNat PV.nil)) fun b13 =>
 bif b13 then
 c96 (PV.rp (List.length h6)) (IntKind.wrap .i64 (n3+(1:Int))) h8 fun h14 =>
 bif (PV.isRp p1) then
 bif (true&&true&&(hokV h14 116 (PV.rI p1))) then
 bif (true&&decide ((0:Int)≤n2)&&decide (n2 < ((PV.rN (PV.fld (hvarOf h14 (PV.rI p1)) 2)):Int))) then
 bif (true&&true&&(hokR h14 149 (PV.rI (PV.fld (hvarOf h14 (PV.rI p1)) 2)) n2)) then
 bif (true&&decide ((0:Int)≤n3)&&decide (n3 < ((PV.rN (List.getD (hrowOf h14 (PV.rI (PV.fld (hvarOf h14 (PV.rI p1)) 2))) (n2).toNat PV.nil)):Int))) then
 bif (true&&(hokR h14 118 (PV.rI (List.getD (hrowOf h14 (PV.rI (PV.fld (hvarOf h14 (PV.rI p1)) 2))) (n2).toNat PV.nil)) n3)) then
 let h15:List HE:=(List.set h14 (PV.rI (List.getD (hrowOf h14 (PV.rI (PV.fld (hvarOf h14 (PV.rI p1)) 2))) (n2).toNat PV.nil)) (HE.row 118 (List.set (hrowOf h14 (PV.rI (List.getD (hrowOf h14 (PV.rI (PV.fld (hvarOf h14 (PV.rI p1)) 2))) (n2).toNat PV.nil))) (n3).toNat (PV.rp (List.length h6)))))
 ret0 (PV.rp (List.length h6)) h15
 else none
 else none
 else none
 else none
 else none
 else none
 else bif (PV.isRp p1) then
 bif (true&&true&&(hokV h8 116 (PV.rI p1))) then
 bif (true&&decide ((0:Int)≤n2)&&decide (n2 < ((PV.rN (PV.fld (hvarOf h8 (PV.rI p1)) 2)):Int))) then
 bif (true&&true&&(hokR h8 149 (PV.rI (PV.fld (hvarOf h8 (PV.rI p1)) 2)) n2)) then
 bif (true&&decide ((0:Int)≤n3)&&decide (n3 < ((PV.rN (List.getD (hrowOf h8 (PV.rI (PV.fld (hvarOf h8 (PV.rI p1)) 2))) (n2).toNat PV.nil)):Int))) then
 bif (true&&(hokR h8 118 (PV.rI (List.getD (hrowOf h8 (PV.rI (PV.fld (hvarOf h8 (PV.rI p1)) 2))) (n2).toNat PV.nil)) n3)) then
 let h16:List HE:=(List.set h8 (PV.rI (List.getD (hrowOf h8 (PV.rI (PV.fld (hvarOf h8 (PV.rI p1)) 2))) (n2).toNat PV.nil)) (HE.row 118 (List.set (hrowOf h8 (PV.rI (List.getD (hrowOf h8 (PV.rI (PV.fld (hvarOf h8 (PV.rI p1)) 2))) (n2).toNat PV.nil))) (n3).toNat (PV.rp (List.length h6)))))
 ret0 (PV.rp (List.length h6)) h16
 else none
 else none
 else none
 else none
 else none
 else none
 else none
 else none
 else none
 else none
 else bif (PV.isRp p1) then
 bif (true&&true&&(hokV h8 116 (PV.rI p1))) then
 bif (true&&decide ((0:Int)≤n2)&&decide (n2 < ((PV.rN (PV.fld (hvarOf h8 (PV.rI p1)) 2)):Int))) then
 bif (true&&true&&(hokR h8 149 (PV.rI (PV.fld (hvarOf h8 (PV.rI p1)) 2)) n2)) then
 bif (true&&decide ((0:Int)≤n3)&&decide (n3 < ((PV.rN (List.getD (hrowOf h8 (PV.rI (PV.fld (hvarOf h8 (PV.rI p1)) 2))) (n2).toNat PV.nil)):Int))) then
 bif (true&&(hokR h8 118 (PV.rI (List.getD (hrowOf h8 (PV.rI (PV.fld (hvarOf h8 (PV.rI p1)) 2))) (n2).toNat PV.nil)) n3)) then
 let h17:List HE:=(List.set h8 (PV.rI (List.getD (hrowOf h8 (PV.rI (PV.fld (hvarOf h8 (PV.rI p1)) 2))) (n2).toNat PV.nil)) (HE.row 118 (List.set (hrowOf h8 (PV.rI (List.getD (hrowOf h8 (PV.rI (PV.fld (hvarOf h8 (PV.rI p1)) 2))) (n2).toNat PV.nil))) (n3).toNat (PV.rp (List.length h6)))))
 ret0 (PV.rp (List.length h6)) h17
 else none
 else none
 else none
 else none
 else none
 else none
 else none
 else none
 else bif (decide (n9=(3:Int))) then
 bif (true&&true&&(hokR h8 122 (PV.rI (PV.fld (hvarOf h8 (PV.rI p1)) 0)) n2)) then
 bif (true&&decide ((0:Int)≤(0:Int))&&decide ((0:Int) < ((PV.rN (PV.fld (List.getD (hrowOf h8 (PV.rI (PV.fld (hvarOf h8 (PV.rI p1)) 0))) (n2).toNat PV.nil) 1)):Int))) then
 bif (true&&true&&(hokR h8 3 (PV.rI (PV.fld (List.getD (hrowOf h8 (PV.rI (PV.fld (hvarOf h8 (PV.rI p1)) 0))) (n2).toNat PV.nil) 1)) (0:Int))) then
 let n18:Int:=(PV.num (List.getD (hrowOf h8 (PV.rI (PV.fld (List.getD (hrowOf h8 (PV.rI (PV.fld (hvarOf h8 (PV.rI p1)) 0))) (n2).toNat PV.nil) 1))) ((0:Int)).toNat PV.nil))
 c74 p1 n18 n3 h8 fun p19 h20 =>
 w1 h6 h8 p19 n3 h20
 else none
 else none
 else none
 else bif (decide (n9=(4:Int))) then
 bif (true&&true&&(hokR h8 122 (PV.rI (PV.fld (hvarOf h8 (PV.rI p1)) 0)) n2)) then
 bif (true&&decide ((0:Int)≤(0:Int))&&decide ((0:Int) < ((PV.rN (PV.fld (List.getD (hrowOf h8 (PV.rI (PV.fld (hvarOf h8 (PV.rI p1)) 0))) (n2).toNat PV.nil) 1)):Int))) then
 bif (true&&true&&(hokR h8 3 (PV.rI (PV.fld (List.getD (hrowOf h8 (PV.rI (PV.fld (hvarOf h8 (PV.rI p1)) 0))) (n2).toNat PV.nil) 1)) (0:Int))) then
 let n37:Int:=(PV.num (List.getD (hrowOf h8 (PV.rI (PV.fld (List.getD (hrowOf h8 (PV.rI (PV.fld (hvarOf h8 (PV.rI p1)) 0))) (n2).toNat PV.nil) 1))) ((0:Int)).toNat PV.nil))
 c74 p1 n37 n3 h8 fun p38 h39 =>
 c98 (PV.rp (List.length h6)) p38 h39 fun h40 =>
 bif (true&&true&&(hokR h40 122 (PV.rI (PV.fld (hvarOf h8 (PV.rI p1)) 0)) n2)) then
 bif (true&&decide ((0:Int)≤(1:Int))&&decide ((1:Int) < ((PV.rN (PV.fld (List.getD (hrowOf h40 (PV.rI (PV.fld (hvarOf h8 (PV.rI p1)) 0))) (n2).toNat PV.nil) 1)):Int))) then
 bif (true&&true&&(hokR h40 3 (PV.rI (PV.fld (List.getD (hrowOf h40 (PV.rI (PV.fld (hvarOf h8 (PV.rI p1)) 0))) (n2).toNat PV.nil) 1)) (1:Int))) then
 let n41:Int:=(PV.num (List.getD (hrowOf h40 (PV.rI (PV.fld (List.getD (hrowOf h40 (PV.rI (PV.fld (hvarOf h8 (PV.rI p1)) 0))) (n2).toNat PV.nil) 1))) ((1:Int)).toNat PV.nil))
 c74 p1 n41 n3 h40 fun p42 h43 =>
 c98 (PV.rp (List.length h6)) p42 h43 fun h44 =>
 bif (PV.isRp p1) then
 bif (true&&true&&(hokV h44 116 (PV.rI p1))) then
 bif (true&&decide ((0:Int)≤n2)&&decide (n2 < ((PV.rN (PV.fld (hvarOf h44 (PV.rI p1)) 2)):Int))) then
 bif (true&&true&&(hokR h44 149 (PV.rI (PV.fld (hvarOf h44 (PV.rI p1)) 2)) n2)) then
 bif (true&&decide ((0:Int)≤n3)&&decide (n3 < ((PV.rN (List.getD (hrowOf h44 (PV.rI (PV.fld (hvarOf h44 (PV.rI p1)) 2))) (n2).toNat PV.nil)):Int))) then
 bif (true&&(hokR h44 118 (PV.rI (List.getD (hrowOf h44 (PV.rI (PV.fld (hvarOf h44 (PV.rI p1)) 2))) (n2).toNat PV.nil)) n3)) then
 let h45:List HE:=(List.set h44 (PV.rI (List.getD (hrowOf h44 (PV.rI (PV.fld (hvarOf h44 (PV.rI p1)) 2))) (n2).toNat PV.nil)) (HE.row 118 (List.set (hrowOf h44 (PV.rI (List.getD (hrowOf h44 (PV.rI (PV.fld (hvarOf h44 (PV.rI p1)) 2))) (n2).toNat PV.nil))) (n3).toNat (PV.rp (List.length h6)))))
 ret0 (PV.rp (List.length h6)) h45
 else none
 else none
 else none
 else none
 else none
 else none
 else none
 else none
 else none
 else none
 else none
 else none
 else bif (decide (n9=(5:Int))) then
 c96 (PV.rp (List.length h6)) n3 h8 fun h46 =>
 w2 h6 h8 n3 h46
 else bif (decide (n9=(6:Int))) then
 bif (true&&true&&(hokR h8 122 (PV.rI (PV.fld (hvarOf h8 (PV.rI p1)) 0)) n2)) then
 bif (true&&decide ((0:Int)≤(0:Int))&&decide ((0:Int) < ((PV.rN (PV.fld (List.getD (hrowOf h8 (PV.rI (PV.fld (hvarOf h8 (PV.rI p1)) 0))) (n2).toNat PV.nil) 1)):Int))) then
 bif (true&&true&&(hokR h8 3 (PV.rI (PV.fld (List.getD (hrowOf h8 (PV.rI (PV.fld (hvarOf h8 (PV.rI p1)) 0))) (n2).toNat PV.nil) 1)) (0:Int))) then
 let n63:Int:=(PV.num (List.getD (hrowOf h8 (PV.rI (PV.fld (List.getD (hrowOf h8 (PV.rI (PV.fld (hvarOf h8 (PV.rI p1)) 0))) (n2).toNat PV.nil) 1))) ((0:Int)).toNat PV.nil))
 c74 p1 n63 n3 h8 fun p64 h65 =>
 c98 (PV.rp (List.length h6)) p64 h65 fun h66 =>
 bif (PV.isRp p1) then
 bif (true&&true&&(hokV h66 116 (PV.rI p1))) then
 bif (true&&decide ((0:Int)≤n2)&&decide (n2 < ((PV.rN (PV.fld (hvarOf h66 (PV.rI p1)) 2)):Int))) then
 bif (true&&true&&(hokR h66 149 (PV.rI (PV.fld (hvarOf h66 (PV.rI p1)) 2)) n2)) then
 bif (true&&decide ((0:Int)≤n3)&&decide (n3 < ((PV.rN (List.getD (hrowOf h66 (PV.rI (PV.fld (hvarOf h66 (PV.rI p1)) 2))) (n2).toNat PV.nil)):Int))) then
 bif (true&&(hokR h66 118 (PV.rI (List.getD (hrowOf h66 (PV.rI (PV.fld (hvarOf h66 (PV.rI p1)) 2))) (n2).toNat PV.nil)) n3)) then
 let h67:List HE:=(List.set h66 (PV.rI (List.getD (hrowOf h66 (PV.rI (PV.fld (hvarOf h66 (PV.rI p1)) 2))) (n2).toNat PV.nil)) (HE.row 118 (List.set (hrowOf h66 (PV.rI (List.getD (hrowOf h66 (PV.rI (PV.fld (hvarOf h66 (PV.rI p1)) 2))) (n2).toNat PV.nil))) (n3).toNat (PV.rp (List.length h6)))))
 ret0 (PV.rp (List.length h6)) h67
 else none
 else none
 else none
 else none
 else none
 else none
 else none
 else none
 else none
 else bif (decide (n9=(7:Int))) then
 bif (true&&true&&(hokR h8 122 (PV.rI (PV.fld (hvarOf h8 (PV.rI p1)) 0)) n2)) then
 bif (true&&decide ((0:Int)≤(0:Int))&&decide ((0:Int) < ((PV.rN (PV.fld (List.getD (hrowOf h8 (PV.rI (PV.fld (hvarOf h8 (PV.rI p1)) 0))) (n2).toNat PV.nil) 1)):Int))) then
 bif (true&&true&&(hokR h8 3 (PV.rI (PV.fld (List.getD (hrowOf h8 (PV.rI (PV.fld (hvarOf h8 (PV.rI p1)) 0))) (n2).toNat PV.nil) 1)) (0:Int))) then
 let n68:Int:=(PV.num (List.getD (hrowOf h8 (PV.rI (PV.fld (List.getD (hrowOf h8 (PV.rI (PV.fld (hvarOf h8 (PV.rI p1)) 0))) (n2).toNat PV.nil) 1))) ((0:Int)).toNat PV.nil))
 c74 p1 n68 n3 h8 fun p69 h70 =>
 c98 (PV.rp (List.length h6)) p69 h70 fun h71 =>
 bif (PV.isRp p1) then
 bif (true&&true&&(hokV h71 116 (PV.rI p1))) then
 bif (true&&decide ((0:Int)≤n2)&&decide (n2 < ((PV.rN (PV.fld (hvarOf h71 (PV.rI p1)) 2)):Int))) then
 bif (true&&true&&(hokR h71 149 (PV.rI (PV.fld (hvarOf h71 (PV.rI p1)) 2)) n2)) then
 bif (true&&decide ((0:Int)≤n3)&&decide (n3 < ((PV.rN (List.getD (hrowOf h71 (PV.rI (PV.fld (hvarOf h71 (PV.rI p1)) 2))) (n2).toNat PV.nil)):Int))) then
 bif (true&&(hokR h71 118 (PV.rI (List.getD (hrowOf h71 (PV.rI (PV.fld (hvarOf h71 (PV.rI p1)) 2))) (n2).toNat PV.nil)) n3)) then
 let h72:List HE:=(List.set h71 (PV.rI (List.getD (hrowOf h71 (PV.rI (PV.fld (hvarOf h71 (PV.rI p1)) 2))) (n2).toNat PV.nil)) (HE.row 118 (List.set (hrowOf h71 (PV.rI (List.getD (hrowOf h71 (PV.rI (PV.fld (hvarOf h71 (PV.rI p1)) 2))) (n2).toNat PV.nil))) (n3).toNat (PV.rp (List.length h6)))))
 ret0 (PV.rp (List.length h6)) h72
 else none
 else none
 else none
 else none
 else none
 else none
 else none
 else none
 else none
 else bif (PV.isRp p1) then
 bif (true&&true&&(hokV h8 116 (PV.rI p1))) then
 bif (true&&decide ((0:Int)≤n2)&&decide (n2 < ((PV.rN (PV.fld (hvarOf h8 (PV.rI p1)) 2)):Int))) then
 bif (true&&true&&(hokR h8 149 (PV.rI (PV.fld (hvarOf h8 (PV.rI p1)) 2)) n2)) then
 bif (true&&decide ((0:Int)≤n3)&&decide (n3 < ((PV.rN (List.getD (hrowOf h8 (PV.rI (PV.fld (hvarOf h8 (PV.rI p1)) 2))) (n2).toNat PV.nil)):Int))) then
 bif (true&&(hokR h8 118 (PV.rI (List.getD (hrowOf h8 (PV.rI (PV.fld (hvarOf h8 (PV.rI p1)) 2))) (n2).toNat PV.nil)) n3)) then
 let h73:List HE:=(List.set h8 (PV.rI (List.getD (hrowOf h8 (PV.rI (PV.fld (hvarOf h8 (PV.rI p1)) 2))) (n2).toNat PV.nil)) (HE.row 118 (List.set (hrowOf h8 (PV.rI (List.getD (hrowOf h8 (PV.rI (PV.fld (hvarOf h8 (PV.rI p1)) 2))) (n2).toNat PV.nil))) (n3).toNat (PV.rp (List.length h6)))))
 ret0 (PV.rp (List.length h6)) h73
 else none
 else none
 else none
 else none
 else none
 else none
 else none
 else none
 else none
 else none
 else none
 else none
 else none
 else none
 else none
 else none
 else none
 else none
 else none
 else none
 else none
 else none
 else none
 else bif (PV.isRp p1) then
 bif (true&&true&&(hokV h4 116 (PV.rI p1))) then
 bif (true&&decide ((0:Int)≤n2)&&decide (n2 < ((PV.rN (PV.fld (hvarOf h4 (PV.rI p1)) 2)):Int))) then
 bif (true&&true&&(hokR h4 149 (PV.rI (PV.fld (hvarOf h4 (PV.rI p1)) 2)) n2)) then
 bif (true&&decide ((0:Int)≤n3)&&decide (n3 < ((PV.rN (List.getD (hrowOf h4 (PV.rI (PV.fld (hvarOf h4 (PV.rI p1)) 2))) (n2).toNat PV.nil)):Int))) then
 bif (true&&true&&(hokR h4 118 (PV.rI (List.getD (hrowOf h4 (PV.rI (PV.fld (hvarOf h4 (PV.rI p1)) 2))) (n2).toNat PV.nil)) n3)) then
 let p74:PV:=(List.getD (hrowOf h4 (PV.rI (List.getD (hrowOf h4 (PV.rI (PV.fld (hvarOf h4 (PV.rI p1)) 2))) (n2).toNat PV.nil))) (n3).toNat PV.nil)
 bif (!(PV.isNil p74)) then
 ret0 p74 h4
 else let h75:List HE:=(h4++[HE.var 151 (PV.agg [(PV.int 0),(PV.int 0),(PV.int 0),(PV.int 0),(PV.int 0)])])
 bif (PV.isRp p1) then
 bif (true&&true&&(hokV h75 116 (PV.rI p1))) then
 bif (true&&decide ((0:Int)≤n2)&&decide (n2 < ((PV.rN (PV.fld (hvarOf h75 (PV.rI p1)) 0)):Int))) then
 bif (true&&true&&(hokR h75 122 (PV.rI (PV.fld (hvarOf h75 (PV.rI p1)) 0)) n2)) then
 let n76:Int:=(PV.num (PV.fld (PV.fld (List.getD (hrowOf h75 (PV.rI (PV.fld (hvarOf h75 (PV.rI p1)) 0))) (n2).toNat PV.nil) 0) 0))
 bif (decide (n76=(1:Int))) then
 c96 (PV.rp (List.length h4)) n3 h75 fun h77 =>
 bif (PV.isRp p1) then
 bif (true&&true&&(hokV h77 116 (PV.rI p1))) then
 bif (true&&decide ((0:Int)≤n2)&&decide (n2 < ((PV.rN (PV.fld (hvarOf h77 (PV.rI p1)) 2)):Int))) then
 bif (true&&true&&(hokR h77 149 (PV.rI (PV.fld (hvarOf h77 (PV.rI p1)) 2)) n2)) then
 bif (true&&decide ((0:Int)≤n3)&&decide (n3 < ((PV.rN (List.getD (hrowOf h77 (PV.rI (PV.fld (hvarOf h77 (PV.rI p1)) 2))) (n2).toNat PV.nil)):Int))) then
 bif (true&&(hokR h77 118 (PV.rI (List.getD (hrowOf h77 (PV.rI (PV.fld (hvarOf h77 (PV.rI p1)) 2))) (n2).toNat PV.nil)) n3)) then
 let h78:List HE:=(List.set h77 (PV.rI (List.getD (hrowOf h77 (PV.rI (PV.fld (hvarOf h77 (PV.rI p1)) 2))) (n2).toNat PV.nil)) (HE.row 118 (List.set (hrowOf h77 (PV.rI (List.getD (hrowOf h77 (PV.rI (PV.fld (hvarOf h77 (PV.rI p1)) 2))) (n2).toNat PV.nil))) (n3).toNat (PV.rp (List.length h4)))))
 ret0 (PV.rp (List.length h4)) h78
 else none
 else none
 else none
 else none
 else none
 else none
 else bif (decide (n76=(2:Int))) then
 bif (PV.isRp p1) then
 bif (true&&true&&(hokV h75 116 (PV.rI p1))) then
 bif ((decide (n3 < (List.length (PV.els (PV.fld (hvarOf h75 (PV.rI p1)) 1)):Int)))==true) then
 bif (true&&true&&(hokR h75 122 (PV.rI (PV.fld (hvarOf h75 (PV.rI p1)) 0)) n2)) then
 let p79:PV:=(PV.fld (PV.fld (List.getD (hrowOf h75 (PV.rI (PV.fld (hvarOf h75 (PV.rI p1)) 0))) (n2).toNat PV.nil) 0) 1)
 bif (PV.isRp p1) then
 bif (true&&true&&(hokV h75 116 (PV.rI p1))) then
 bif (true&&decide ((0:Int)≤n3)&&decide (n3 < (List.length (PV.els (PV.fld (hvarOf h75 (PV.rI p1)) 1)):Int))) then
 c97 p79 (PV.num (List.getD (PV.els (PV.fld (hvarOf h75 (PV.rI p1)) 1)) (n3).toNat PV.nil)) fun b80 =>
 bif b80 then
 c96 (PV.rp (List.length h4)) (IntKind.wrap .i64 (n3+(1:Int))) h75 fun h81 =>
 bif (PV.isRp p1) then
 bif (true&&true&&(hokV h81 116 (PV.rI p1))) then
 bif (true&&decide ((0:Int)≤n2)&&decide (n2 < ((PV.rN (PV.fld (hvarOf h81 (PV.rI p1)) 2)):Int))) then
 bif (true&&true&&(hokR h81 149 (PV.rI (PV.fld (hvarOf h81 (PV.rI p1)) 2)) n2)) then
 bif (true&&decide ((0:Int)≤n3)&&decide (n3 < ((PV.rN (List.getD (hrowOf h81 (PV.rI (PV.fld (hvarOf h81 (PV.rI p1)) 2))) (n2).toNat PV.nil)):Int))) then
 bif (true&&(hokR h81 118 (PV.rI (List.getD (hrowOf h81 (PV.rI (PV.fld (hvarOf h81 (PV.rI p1)) 2))) (n2).toNat PV.nil)) n3)) then
 let h82:List HE:=(List.set h81 (PV.rI (List.getD (hrowOf h81 (PV.rI (PV.fld (hvarOf h81 (PV.rI p1)) 2))) (n2).toNat PV.nil)) (HE.row 118 (List.set (hrowOf h81 (PV.rI (List.getD (hrowOf h81 (PV.rI (PV.fld (hvarOf h81 (PV.rI p1)) 2))) (n2).toNat PV.nil))) (n3).toNat (PV.rp (List.length h4)))))
 ret0 (PV.rp (List.length h4)) h82
 else none
 else none
 else none
 else none
 else none
 else none
 else bif (PV.isRp p1) then
 bif (true&&true&&(hokV h75 116 (PV.rI p1))) then
 bif (true&&decide ((0:Int)≤n2)&&decide (n2 < ((PV.rN (PV.fld (hvarOf h75 (PV.rI p1)) 2)):Int))) then
 bif (true&&true&&(hokR h75 149 (PV.rI (PV.fld (hvarOf h75 (PV.rI p1)) 2)) n2)) then
 bif (true&&decide ((0:Int)≤n3)&&decide (n3 < ((PV.rN (List.getD (hrowOf h75 (PV.rI (PV.fld (hvarOf h75 (PV.rI p1)) 2))) (n2).toNat PV.nil)):Int))) then
 bif (true&&(hokR h75 118 (PV.rI (List.getD (hrowOf h75 (PV.rI (PV.fld (hvarOf h75 (PV.rI p1)) 2))) (n2).toNat PV.nil)) n3)) then
 let h83:List HE:=(List.set h75 (PV.rI (List.getD (hrowOf h75 (PV.rI (PV.fld (hvarOf h75 (PV.rI p1)) 2))) (n2).toNat PV.nil)) (HE.row 118 (List.set (hrowOf h75 (PV.rI (List.getD (hrowOf h75 (PV.rI (PV.fld (hvarOf h75 (PV.rI p1)) 2))) (n2).toNat PV.nil))) (n3).toNat (PV.rp (List.length h4)))))
 ret0 (PV.rp (List.length h4)) h83
 else none
 else none
 else none
 else none
 else none
 else none
 else none
 else none
 else none
 else none
 else bif (PV.isRp p1) then
 bif (true&&true&&(hokV h75 116 (PV.rI p1))) then
 bif (true&&decide ((0:Int)≤n2)&&decide (n2 < ((PV.rN (PV.fld (hvarOf h75 (PV.rI p1)) 2)):Int))) then
 bif (true&&true&&(hokR h75 149 (PV.rI (PV.fld (hvarOf h75 (PV.rI p1)) 2)) n2)) then
 bif (true&&decide ((0:Int)≤n3)&&decide (n3 < ((PV.rN (List.getD (hrowOf h75 (PV.rI (PV.fld (hvarOf h75 (PV.rI p1)) 2))) (n2).toNat PV.nil)):Int))) then
 bif (true&&(hokR h75 118 (PV.rI (List.getD (hrowOf h75 (PV.rI (PV.fld (hvarOf h75 (PV.rI p1)) 2))) (n2).toNat PV.nil)) n3)) then
 let h84:List HE:=(List.set h75 (PV.rI (List.getD (hrowOf h75 (PV.rI (PV.fld (hvarOf h75 (PV.rI p1)) 2))) (n2).toNat PV.nil)) (HE.row 118 (List.set (hrowOf h75 (PV.rI (List.getD (hrowOf h75 (PV.rI (PV.fld (hvarOf h75 (PV.rI p1)) 2))) (n2).toNat PV.nil))) (n3).toNat (PV.rp (List.length h4)))))
 ret0 (PV.rp (List.length h4)) h84
 else none
 else none
 else none
 else none
 else none
 else none
 else none
 else none
 else bif (decide (n76=(3:Int))) then
 bif (true&&true&&(hokR h75 122 (PV.rI (PV.fld (hvarOf h75 (PV.rI p1)) 0)) n2)) then
 bif (true&&decide ((0:Int)≤(0:Int))&&decide ((0:Int) < ((PV.rN (PV.fld (List.getD (hrowOf h75 (PV.rI (PV.fld (hvarOf h75 (PV.rI p1)) 0))) (n2).toNat PV.nil) 1)):Int))) then
 bif (true&&true&&(hokR h75 3 (PV.rI (PV.fld (List.getD (hrowOf h75 (PV.rI (PV.fld (hvarOf h75 (PV.rI p1)) 0))) (n2).toNat PV.nil) 1)) (0:Int))) then
 let n85:Int:=(PV.num (List.getD (hrowOf h75 (PV.rI (PV.fld (List.getD (hrowOf h75 (PV.rI (PV.fld (hvarOf h75 (PV.rI p1)) 0))) (n2).toNat PV.nil) 1))) ((0:Int)).toNat PV.nil))
 c74 p1 n85 n3 h75 fun p86 h87 =>
 w1 h4 h75 p86 n3 h87
 else none
 else none
 else none
 else bif (decide (n76=(4:Int))) then
 bif (true&&true&&(hokR h75 122 (PV.rI (PV.fld (hvarOf h75 (PV.rI p1)) 0)) n2)) then
 bif (true&&decide ((0:Int)≤(0:Int))&&decide ((0:Int) < ((PV.rN (PV.fld (List.getD (hrowOf h75 (PV.rI (PV.fld (hvarOf h75 (PV.rI p1)) 0))) (n2).toNat PV.nil) 1)):Int))) then
 bif (true&&true&&(hokR h75 3 (PV.rI (PV.fld (List.getD (hrowOf h75 (PV.rI (PV.fld (hvarOf h75 (PV.rI p1)) 0))) (n2).toNat PV.nil) 1)) (0:Int))) then
 let n104:Int:=(PV.num (List.getD (hrowOf h75 (PV.rI (PV.fld (List.getD (hrowOf h75 (PV.rI (PV.fld (hvarOf h75 (PV.rI p1)) 0))) (n2).toNat PV.nil) 1))) ((0:Int)).toNat PV.nil))
 c74 p1 n104 n3 h75 fun p105 h106 =>
 c98 (PV.rp (List.length h4)) p105 h106 fun h107 =>
 bif (true&&true&&(hokR h107 122 (PV.rI (PV.fld (hvarOf h75 (PV.rI p1)) 0)) n2)) then
 bif (true&&decide ((0:Int)≤(1:Int))&&decide ((1:Int) < ((PV.rN (PV.fld (List.getD (hrowOf h107 (PV.rI (PV.fld (hvarOf h75 (PV.rI p1)) 0))) (n2).toNat PV.nil) 1)):Int))) then
 bif (true&&true&&(hokR h107 3 (PV.rI (PV.fld (List.getD (hrowOf h107 (PV.rI (PV.fld (hvarOf h75 (PV.rI p1)) 0))) (n2).toNat PV.nil) 1)) (1:Int))) then
 let n108:Int:=(PV.num (List.getD (hrowOf h107 (PV.rI (PV.fld (List.getD (hrowOf h107 (PV.rI (PV.fld (hvarOf h75 (PV.rI p1)) 0))) (n2).toNat PV.nil) 1))) ((1:Int)).toNat PV.nil))
 c74 p1 n108 n3 h107 fun p109 h110 =>
 c98 (PV.rp (List.length h4)) p109 h110 fun h111 =>
 bif (PV.isRp p1) then
 bif (true&&true&&(hokV h111 116 (PV.rI p1))) then
 bif (true&&decide ((0:Int)≤n2)&&decide (n2 < ((PV.rN (PV.fld (hvarOf h111 (PV.rI p1)) 2)):Int))) then
 bif (true&&true&&(hokR h111 149 (PV.rI (PV.fld (hvarOf h111 (PV.rI p1)) 2)) n2)) then
 bif (true&&decide ((0:Int)≤n3)&&decide (n3 < ((PV.rN (List.getD (hrowOf h111 (PV.rI (PV.fld (hvarOf h111 (PV.rI p1)) 2))) (n2).toNat PV.nil)):Int))) then
 bif (true&&(hokR h111 118 (PV.rI (List.getD (hrowOf h111 (PV.rI (PV.fld (hvarOf h111 (PV.rI p1)) 2))) (n2).toNat PV.nil)) n3)) then
 let h112:List HE:=(List.set h111 (PV.rI (List.getD (hrowOf h111 (PV.rI (PV.fld (hvarOf h111 (PV.rI p1)) 2))) (n2).toNat PV.nil)) (HE.row 118 (List.set (hrowOf h111 (PV.rI (List.getD (hrowOf h111 (PV.rI (PV.fld (hvarOf h111 (PV.rI p1)) 2))) (n2).toNat PV.nil))) (n3).toNat (PV.rp (List.length h4)))))
 ret0 (PV.rp (List.length h4)) h112
 else none
 else none
 else none
 else none
 else none
 else none
 else none
 else none
 else none
 else none
 else none
 else none
 else bif (decide (n76=(5:Int))) then
 c96 (PV.rp (List.length h4)) n3 h75 fun h113 =>
 w2 h4 h75 n3 h113
 else bif (decide (n76=(6:Int))) then
 bif (true&&true&&(hokR h75 122 (PV.rI (PV.fld (hvarOf h75 (PV.rI p1)) 0)) n2)) then
 bif (true&&decide ((0:Int)≤(0:Int))&&decide ((0:Int) < ((PV.rN (PV.fld (List.getD (hrowOf h75 (PV.rI (PV.fld (hvarOf h75 (PV.rI p1)) 0))) (n2).toNat PV.nil) 1)):Int))) then
 bif (true&&true&&(hokR h75 3 (PV.rI (PV.fld (List.getD (hrowOf h75 (PV.rI (PV.fld (hvarOf h75 (PV.rI p1)) 0))) (n2).toNat PV.nil) 1)) (0:Int))) then
 let n130:Int:=(PV.num (List.getD (hrowOf h75 (PV.rI (PV.fld (List.getD (hrowOf h75 (PV.rI (PV.fld (hvarOf h75 (PV.rI p1)) 0))) (n2).toNat PV.nil) 1))) ((0:Int)).toNat PV.nil))
 c74 p1 n130 n3 h75 fun p131 h132 =>
 c98 (PV.rp (List.length h4)) p131 h132 fun h133 =>
 bif (PV.isRp p1) then
 bif (true&&true&&(hokV h133 116 (PV.rI p1))) then
 bif (true&&decide ((0:Int)≤n2)&&decide (n2 < ((PV.rN (PV.fld (hvarOf h133 (PV.rI p1)) 2)):Int))) then
 bif (true&&true&&(hokR h133 149 (PV.rI (PV.fld (hvarOf h133 (PV.rI p1)) 2)) n2)) then
 bif (true&&decide ((0:Int)≤n3)&&decide (n3 < ((PV.rN (List.getD (hrowOf h133 (PV.rI (PV.fld (hvarOf h133 (PV.rI p1)) 2))) (n2).toNat PV.nil)):Int))) then
 bif (true&&(hokR h133 118 (PV.rI (List.getD (hrowOf h133 (PV.rI (PV.fld (hvarOf h133 (PV.rI p1)) 2))) (n2).toNat PV.nil)) n3)) then
 let h134:List HE:=(List.set h133 (PV.rI (List.getD (hrowOf h133 (PV.rI (PV.fld (hvarOf h133 (PV.rI p1)) 2))) (n2).toNat PV.nil)) (HE.row 118 (List.set (hrowOf h133 (PV.rI (List.getD (hrowOf h133 (PV.rI (PV.fld (hvarOf h133 (PV.rI p1)) 2))) (n2).toNat PV.nil))) (n3).toNat (PV.rp (List.length h4)))))
 ret0 (PV.rp (List.length h4)) h134
 else none
 else none
 else none
 else none
 else none
 else none
 else none
 else none
 else none
 else bif (decide (n76=(7:Int))) then
 bif (true&&true&&(hokR h75 122 (PV.rI (PV.fld (hvarOf h75 (PV.rI p1)) 0)) n2)) then
 bif (true&&decide ((0:Int)≤(0:Int))&&decide ((0:Int) < ((PV.rN (PV.fld (List.getD (hrowOf h75 (PV.rI (PV.fld (hvarOf h75 (PV.rI p1)) 0))) (n2).toNat PV.nil) 1)):Int))) then
 bif (true&&true&&(hokR h75 3 (PV.rI (PV.fld (List.getD (hrowOf h75 (PV.rI (PV.fld (hvarOf h75 (PV.rI p1)) 0))) (n2).toNat PV.nil) 1)) (0:Int))) then
 let n135:Int:=(PV.num (List.getD (hrowOf h75 (PV.rI (PV.fld (List.getD (hrowOf h75 (PV.rI (PV.fld (hvarOf h75 (PV.rI p1)) 0))) (n2).toNat PV.nil) 1))) ((0:Int)).toNat PV.nil))
 c74 p1 n135 n3 h75 fun p136 h137 =>
 c98 (PV.rp (List.length h4)) p136 h137 fun h138 =>
 bif (PV.isRp p1) then
 bif (true&&true&&(hokV h138 116 (PV.rI p1))) then
 bif (true&&decide ((0:Int)≤n2)&&decide (n2 < ((PV.rN (PV.fld (hvarOf h138 (PV.rI p1)) 2)):Int))) then
 bif (true&&true&&(hokR h138 149 (PV.rI (PV.fld (hvarOf h138 (PV.rI p1)) 2)) n2)) then
 bif (true&&decide ((0:Int)≤n3)&&decide (n3 < ((PV.rN (List.getD (hrowOf h138 (PV.rI (PV.fld (hvarOf h138 (PV.rI p1)) 2))) (n2).toNat PV.nil)):Int))) then
 bif (true&&(hokR h138 118 (PV.rI (List.getD (hrowOf h138 (PV.rI (PV.fld (hvarOf h138 (PV.rI p1)) 2))) (n2).toNat PV.nil)) n3)) then
 let h139:List HE:=(List.set h138 (PV.rI (List.getD (hrowOf h138 (PV.rI (PV.fld (hvarOf h138 (PV.rI p1)) 2))) (n2).toNat PV.nil)) (HE.row 118 (List.set (hrowOf h138 (PV.rI (List.getD (hrowOf h138 (PV.rI (PV.fld (hvarOf h138 (PV.rI p1)) 2))) (n2).toNat PV.nil))) (n3).toNat (PV.rp (List.length h4)))))
 ret0 (PV.rp (List.length h4)) h139
 else none
 else none
 else none
 else none
 else none
 else none
 else none
 else none
 else none
 else bif (PV.isRp p1) then
 bif (true&&true&&(hokV h75 116 (PV.rI p1))) then
 bif (true&&decide ((0:Int)≤n2)&&decide (n2 < ((PV.rN (PV.fld (hvarOf h75 (PV.rI p1)) 2)):Int))) then
 bif (true&&true&&(hokR h75 149 (PV.rI (PV.fld (hvarOf h75 (PV.rI p1)) 2)) n2)) then
 bif (true&&decide ((0:Int)≤n3)&&decide (n3 < ((PV.rN (List.getD (hrowOf h75 (PV.rI (PV.fld (hvarOf h75 (PV.rI p1)) 2))) (n2).toNat PV.nil)):Int))) then
 bif (true&&(hokR h75 118 (PV.rI (List.getD (hrowOf h75 (PV.rI (PV.fld (hvarOf h75 (PV.rI p1)) 2))) (n2).toNat PV.nil)) n3)) then
 let h140:List HE:=(List.set h75 (PV.rI (List.getD (hrowOf h75 (PV.rI (PV.fld (hvarOf h75 (PV.rI p1)) 2))) (n2).toNat PV.nil)) (HE.row 118 (List.set (hrowOf h75 (PV.rI (List.getD (hrowOf h75 (PV.rI (PV.fld (hvarOf h75 (PV.rI p1)) 2))) (n2).toNat PV.nil))) (n3).toNat (PV.rp (List.length h4)))))
 ret0 (PV.rp (List.length h4)) h140
 else none
 else none
 else none
 else none
 else none
 else none
 else none
 else none
 else none
 else none
 else none
 else none
 else none
 else none
 else none
 else none
 else none
 else none
 else none
 else none

theorem f74_e_mem (k:Nat)(c74:Ch_8)(c75:Ch_9)(c96:Ch_10)(c97:Ch_2)(c98:Ch_11)(retF:PV × (List HE)→R)(p1:PV)(n2:Int)(n3:Int)(h4:List HE):exec (f74_E k c74 c75 c96 c97 c98) f74_code (endK (f74_E k c74 c75 c96 c97 c98) Try.f74 [1000000000000] f74_un retF) ⟨[.hval 87 p1,.int .i64 n2,.int .i64 n3,.undef,.undef,.undef,.undef,.undef,.undef,.undef,.undef,.undef,.undef,.undef,.undef,.undef,.undef,.undef,.undef,.undef,.undef,.undef,.undef,.undef,.undef,.undef,.undef,.undef,.undef,.undef,.undef,.undef,.undef,.undef,.undef,.undef,.undef,.undef,.undef,.undef,.undef,.undef,.undef,.undef,.undef,.undef,.undef,.undef,.undef,.undef,.undef,.undef,.undef,.undef,.undef,.undef,.undef,.undef,.undef,.undef,.undef,.undef,.undef,.undef,.undef,.undef,.undef,.undef,.undef,.undef,.undef,.undef,.undef,.undef,.undef,.undef,.undef,.undef,.undef,.undef,.undef,.undef,.undef,.undef,.undef,.undef,.undef,.undef,.undef,.undef,.undef,.undef,.undef,.undef,.undef,.undef,.undef,.undef,.undef,.undef,.undef,.undef,.undef,.undef,.undef,.undef,.undef,.undef,.undef,.undef,.undef,.undef,.undef,.undef,.undef,.undef,.undef,.undef,.undef,.undef,.undef,.undef,.undef,.undef,.undef,.undef,.undef,.undef,.undef,.undef,.undef,.undef,.undef,.undef,.undef,.undef,.undef,.undef,.undef,.undef,.undef,.undef,.undef,.undef,.undef,.undef,.undef,.undef,.undef,.undef,.undef,.undef,.undef,.undef,.undef,.undef,.undef,.undef,.undef,.undef,.undef,.undef,.undef,.undef,.undef,.undef,.undef,.undef,.undef,.undef,.undef,.undef,.undef,.undef,.undef,.undef,.undef,.undef,.undef,.undef,.undef,.undef,.undef,.undef,.undef,.undef,.undef,.undef,.undef,.undef,.undef,.undef,.undef,.undef,.undef,.undef,.undef,.undef,.undef,.undef,.undef,.undef,.undef,.undef,.undef,.undef],[(1000000000000,.hp h4)]⟩=f74_e c74 c75 c96 c97 c98 (fun y0 y1=>retF (y0,y1)) (fun h6 h8 p19 n28 h29=>f74_w1A k c74 c75 c96 c97 c98 retF p1 n2 n3 h6 h8 p19 n28 h29) (fun h6 h8 n54 h55=>f74_w2A k c74 c75 c96 c97 c98 retF p1 n2 n3 h6 h8 n54 h55) p1 n2 n3 h4:=by kernel_rfl

noncomputable def f74_N (k:Nat)(c74:Ch_8)(c75:Ch_9)(c96:Ch_10)(c97:Ch_2)(c98:Ch_11)(ret0:PV→(List HE)→R)(p1:PV)(n2:Int)(n3:Int)(h4:List HE):R :=
 f74_e c74 c75 c96 c97 c98 ret0 (fun h6 h8 p19 n28 h29=>f74_w1N k c74 c75 c96 c97 c98 ret0 p1 n2 n3 h6 h8 p19 n28 h29) (fun h6 h8 n54 h55=>f74_w2N k c74 c75 c96 c97 c98 ret0 p1 n2 n3 h6 h8 n54 h55) p1 n2 n3 h4
theorem f74_eq (k:Nat)(c74:Ch_8)(c75:Ch_9)(c96:Ch_10)(c97:Ch_2)(c98:Ch_11)(retF:PV × (List HE)→R)(p1:PV)(n2:Int)(n3:Int)(h4:List HE):exec (f74_E k c74 c75 c96 c97 c98) f74_code (endK (f74_E k c74 c75 c96 c97 c98) Try.f74 [1000000000000] f74_un retF) ⟨[.hval 87 p1,.int .i64 n2,.int .i64 n3,.undef,.undef,.undef,.undef,.undef,.undef,.undef,.undef,.undef,.undef,.undef,.undef,.undef,.undef,.undef,.undef,.undef,.undef,.undef,.undef,.undef,.undef,.undef,.undef,.undef,.undef,.undef,.undef,.undef,.undef,.undef,.undef,.undef,.undef,.undef,.undef,.undef,.undef,.undef,.undef,.undef,.undef,.undef,.undef,.undef,.undef,.undef,.undef,.undef,.undef,.undef,.undef,.undef,.undef,.undef,.undef,.undef,.undef,.undef,.undef,.undef,.undef,.undef,.undef,.undef,.undef,.undef,.undef,.undef,.undef,.undef,.undef,.undef,.undef,.undef,.undef,.undef,.undef,.undef,.undef,.undef,.undef,.undef,.undef,.undef,.undef,.undef,.undef,.undef,.undef,.undef,.undef,.undef,.undef,.undef,.undef,.undef,.undef,.undef,.undef,.undef,.undef,.undef,.undef,.undef,.undef,.undef,.undef,.undef,.undef,.undef,.undef,.undef,.undef,.undef,.undef,.undef,.undef,.undef,.undef,.undef,.undef,.undef,.undef,.undef,.undef,.undef,.undef,.undef,.undef,.undef,.undef,.undef,.undef,.undef,.undef,.undef,.undef,.undef,.undef,.undef,.undef,.undef,.undef,.undef,.undef,.undef,.undef,.undef,.undef,.undef,.undef,.undef,.undef,.undef,.undef,.undef,.undef,.undef,.undef,.undef,.undef,.undef,.undef,.undef,.undef,.undef,.undef,.undef,.undef,.undef,.undef,.undef,.undef,.undef,.undef,.undef,.undef,.undef,.undef,.undef,.undef,.undef,.undef,.undef,.undef,.undef,.undef,.undef,.undef,.undef,.undef,.undef,.undef,.undef,.undef,.undef,.undef,.undef,.undef,.undef,.undef,.undef],[(1000000000000,.hp h4)]⟩=f74_N k c74 c75 c96 c97 c98 (fun y0 y1=>retF (y0,y1)) p1 n2 n3 h4 :=
 (f74_e_mem k c74 c75 c96 c97 c98 retF p1 n2 n3 h4).trans (by rw [show (fun h6 h8 p19 n28 h29=>f74_w1A k c74 c75 c96 c97 c98 retF p1 n2 n3 h6 h8 p19 n28 h29)=(fun h6 h8 p19 n28 h29=>f74_w1N k c74 c75 c96 c97 c98 (fun y0 y1=>retF (y0,y1)) p1 n2 n3 h6 h8 p19 n28 h29) from funext fun h6=>funext fun h8=>funext fun p19=>funext fun n28=>funext fun h29=>f74_w1_eq k c74 c75 c96 c97 c98 retF p1 n2 n3 h6 h8 p19 n28 h29,show (fun h6 h8 n54 h55=>f74_w2A k c74 c75 c96 c97 c98 retF p1 n2 n3 h6 h8 n54 h55)=(fun h6 h8 n54 h55=>f74_w2N k c74 c75 c96 c97 c98 (fun y0 y1=>retF (y0,y1)) p1 n2 n3 h6 h8 n54 h55) from funext fun h6=>funext fun h8=>funext fun n54=>funext fun h55=>f74_w2_eq k c74 c75 c96 c97 c98 retF p1 n2 n3 h6 h8 n54 h55];rfl)

noncomputable def G74:Nat→PV→Int→Int→(List HE)→(PV→(List HE)→R)→R
 | 0,_,_,_,_,_=>none
 | k+1,p1,n2,n3,h4,ret0=>f74_N k (G74 k) (G75 k) (G96 k) (G97 k) (G98 k) ret0 p1 n2 n3 h4
theorem S74:∀ k,Snd Try.prog 74 f74_I f74_O (fun x ret=>G74 k x.1 x.2.1 x.2.2.1 x.2.2.2 (fun y0 y1=>ret (y0,y1)))
 | 0=>snd_none
 | k+1=>snd_step (E:=f74_E k (G74 k) (G75 k) (G96 k) (G97 k) (G98 k)) rfl laidOut noNums (orc_ok (S74 k).o f74_D_ok (orc_ok (S75 k).o f75_D_ok (orc_ok (S96 k).o f96_D_ok (orc_ok (S97 k).o f97_D_ok (orc_ok (S98 k).o f98_D_ok orc0_ok))))) (f:=74) (fn:=Try.f74) (code:=f74_code) Try.func74 (by kernel_rfl) (drawsOk_of laidOut (orc_ok (S74 k).o f74_D_ok (orc_ok (S75 k).o f75_D_ok (orc_ok (S96 k).o f96_D_ok (orc_ok (S97 k).o f97_D_ok (orc_ok (S98 k).o f98_D_ok orc0_ok))))) mixed (by kernel_rfl)) f74_un f74_un_ok [1000000000000] (fun _=>rfl)
   (fun x ret=>f74_eq k (G74 k) (G75 k) (G96 k) (G97 k) (G98 k) ret x.1 x.2.1 x.2.2.1 x.2.2.2)

noncomputable def f52_I:PV × Int × Int × Int × (List HE)→List SV × Obs:=fun x=>([.hval 87 x.1,.int .i64 x.2.1,.int .i64 x.2.2.1,.int .i64 x.2.2.2.1],[(1000000000000,.hp x.2.2.2.2)])
noncomputable def f52_D:List SV→Obs→Option (PV × Int × Int × Int × (List HE))
 | [.hval 87 p1,.int .i64 n2,.int .i64 n3,.int .i64 n4],[(1000000000000,.hp h5)]=>some (p1,n2,n3,n4,h5)
 | _,_=>none
theorem f52_D_ok (args:List SV)(B:Obs)(x:PV × Int × Int × Int × (List HE))(h:f52_D args B=some x):f52_I x=(args,B):=by
 unfold f52_D at h
 split at h
 ·injection h with h;subst h;rfl
 ·cases h
noncomputable def f52_O:Bool × (List HE)→Out:=(fun y=>([.bool y.1],[(1000000000000,.hp y.2)]))
noncomputable def f52_un:Out→Option (Bool × (List HE))
 | ([.bool y0],[(1000000000000,.hp y1)])=>some (y0,y1)
 | _=>none
theorem f52_un_ok (o:Out)(y:Bool × (List HE))(h:f52_un o=some y):o=f52_O y:=by
 unfold f52_un at h
 split at h
 ·injection h with h;subst h;rfl
 ·cases h
noncomputable def f52_msk:Nat→Option (List Nat):=fun key=> none
noncomputable def f52_C (c74:Ch_8)(c75:Ch_9):Oracle:=orc 74 f74_D f74_O (fun x ret=>c74 x.1 x.2.1 x.2.2.1 x.2.2.2 (fun y0 y1=>ret (y0,y1))) <| orc 75 f75_D f75_O (fun x ret=>c75 x.1 x.2.1 x.2.2 (fun y0 y1=>ret (y0,y1))) <| orc0
noncomputable def f52_E (k:Nat)(c74:Ch_8)(c75:Ch_9):Env:={ P:=Try.prog,nilOwn:=fun d=>false,fldOwn:=fun d i=>false,ownPar:=ownPars,ownRet:=false,hpD:=fun d=>false,hpF:=hpFs,hpNew:=false,mask:=f52_msk,fuel:=k,C:=f52_C c74 c75 }
noncomputable def f52_code:Code:=Try.f52.body.getD .skip
noncomputable def f52_e (c74:Ch_8)(c75:Ch_9)(ret0:Bool→(List HE)→R)(p1:PV)(n2:Int)(n3:Int)(n4:Int)(h5:List HE):R :=
 c74 p1 n2 n3 h5 fun p6 h7 =>
 c75 p6 n4 h7 fun b8 h9 =>
 ret0 b8 h9

theorem f52_e_mem (k:Nat)(c74:Ch_8)(c75:Ch_9)(retF:Bool × (List HE)→R)(p1:PV)(n2:Int)(n3:Int)(n4:Int)(h5:List HE):exec (f52_E k c74 c75) f52_code (endK (f52_E k c74 c75) Try.f52 [1000000000000] f52_un retF) ⟨[.hval 87 p1,.int .i64 n2,.int .i64 n3,.int .i64 n4,.undef,.undef,.undef,.undef,.undef,.undef,.undef,.undef,.undef,.undef,.undef],[(1000000000000,.hp h5)]⟩=f52_e c74 c75 (fun y0 y1=>retF (y0,y1)) p1 n2 n3 n4 h5:=by kernel_rfl

noncomputable def f52_N (k:Nat)(c74:Ch_8)(c75:Ch_9)(ret0:Bool→(List HE)→R)(p1:PV)(n2:Int)(n3:Int)(n4:Int)(h5:List HE):R :=
 f52_e c74 c75 ret0 p1 n2 n3 n4 h5
theorem f52_eq (k:Nat)(c74:Ch_8)(c75:Ch_9)(retF:Bool × (List HE)→R)(p1:PV)(n2:Int)(n3:Int)(n4:Int)(h5:List HE):exec (f52_E k c74 c75) f52_code (endK (f52_E k c74 c75) Try.f52 [1000000000000] f52_un retF) ⟨[.hval 87 p1,.int .i64 n2,.int .i64 n3,.int .i64 n4,.undef,.undef,.undef,.undef,.undef,.undef,.undef,.undef,.undef,.undef,.undef],[(1000000000000,.hp h5)]⟩=f52_N k c74 c75 (fun y0 y1=>retF (y0,y1)) p1 n2 n3 n4 h5 :=
 (f52_e_mem k c74 c75 retF p1 n2 n3 n4 h5)

noncomputable def G52:Nat→PV→Int→Int→Int→(List HE)→(Bool→(List HE)→R)→R
 | 0,_,_,_,_,_,_=>none
 | k+1,p1,n2,n3,n4,h5,ret0=>f52_N k (G74 k) (G75 k) ret0 p1 n2 n3 n4 h5
theorem S52:∀ k,Snd Try.prog 52 f52_I f52_O (fun x ret=>G52 k x.1 x.2.1 x.2.2.1 x.2.2.2.1 x.2.2.2.2 (fun y0 y1=>ret (y0,y1)))
 | 0=>snd_none
 | k+1=>snd_step (E:=f52_E k (G74 k) (G75 k)) rfl laidOut noNums (orc_ok (S74 k).o f74_D_ok (orc_ok (S75 k).o f75_D_ok orc0_ok)) (f:=52) (fn:=Try.f52) (code:=f52_code) Try.func52 (by kernel_rfl) (drawsOk_of laidOut (orc_ok (S74 k).o f74_D_ok (orc_ok (S75 k).o f75_D_ok orc0_ok)) mixed (by kernel_rfl)) f52_un f52_un_ok [1000000000000] (fun _=>rfl)
   (fun x ret=>f52_eq k (G74 k) (G75 k) ret x.1 x.2.1 x.2.2.1 x.2.2.2.1 x.2.2.2.2)

noncomputable def f104_I:PV × Int × Int × Int × (List HE)→List SV × Obs:=fun x=>([.hval 137 x.1,.int .i64 x.2.1,.int .i64 x.2.2.1,.int .i64 x.2.2.2.1],[(1000000000000,.hp x.2.2.2.2)])
noncomputable def f104_D:List SV→Obs→Option (PV × Int × Int × Int × (List HE))
 | [.hval 137 p1,.int .i64 n2,.int .i64 n3,.int .i64 n4],[(1000000000000,.hp h5)]=>some (p1,n2,n3,n4,h5)
 | _,_=>none
theorem f104_D_ok (args:List SV)(B:Obs)(x:PV × Int × Int × Int × (List HE))(h:f104_D args B=some x):f104_I x=(args,B):=by
 unfold f104_D at h
 split at h
 ·injection h with h;subst h;rfl
 ·cases h
noncomputable def f104_O:Bool × (List HE)→Out:=(fun y=>([.bool y.1],[(1000000000000,.hp y.2)]))
noncomputable def f104_un:Out→Option (Bool × (List HE))
 | ([.bool y0],[(1000000000000,.hp y1)])=>some (y0,y1)
 | _=>none
theorem f104_un_ok (o:Out)(y:Bool × (List HE))(h:f104_un o=some y):o=f104_O y:=by
 unfold f104_un at h
 split at h
 ·injection h with h;subst h;rfl
 ·cases h
noncomputable def f104_msk:Nat→Option (List Nat):=fun key=>bif key==6 then some [0,1,2,9] else none
noncomputable def f104_C (c52:Ch_12):Oracle:=orc 52 f52_D f52_O (fun x ret=>c52 x.1 x.2.1 x.2.2.1 x.2.2.2.1 x.2.2.2.2 (fun y0 y1=>ret (y0,y1))) <| orc0
noncomputable def f104_E (k:Nat)(c52:Ch_12):Env:={ P:=Try.prog,nilOwn:=fun d=>false,fldOwn:=fun d i=>false,ownPar:=ownPars,ownRet:=false,hpD:=fun d=>false,hpF:=hpFs,hpNew:=false,mask:=f104_msk,fuel:=k,C:=f104_C c52 }
noncomputable def f104_code:Code:=Try.f104.body.getD .skip
noncomputable def f104_cw1:Code:=subC f104_code [1,0,1,0,0]
noncomputable def f104_hw1_0 (p1:PV)(n2:Int)(n3:Int)(n9:Int)(h10:List HE):St:=⟨[.hval 137 p1,.int .i64 n2,.int .i64 n3,.dead,.dead,.dead,.dead,.dead,.dead,.int .i64 n9,.dead,.dead,.dead,.dead,.dead,.dead,.dead,.dead,.dead,.dead,.dead,.dead,.dead,.dead,.dead,.dead,.dead,.dead,.dead,.dead,.dead,.dead,.dead,.dead,.dead,.dead,.dead,.dead,.dead],[(1000000000000,.hp h10)]⟩
noncomputable def f104_w1A (k:Nat)(c52:Ch_12)(retF:Bool × (List HE)→R)(p1:PV)(n2:Int)(n3:Int)(n9:Int)(h10:List HE):R:=loopM (f104_E k c52) f104_cw1 (kont (f104_E k c52) f104_code [1,0,1,0] (endK (f104_E k c52) Try.f104 [1000000000000] f104_un retF)) k (f104_hw1_0 p1 n2 n3 n9 h10)
noncomputable def f104_w1b0 (c52:Ch_12)(ret0:Bool→(List HE)→R)(next_w1_0:Int→(List HE)→R)(p1:PV)(n2:Int)(n3:Int)(n9:Int)(h10:List HE):R :=
 bif (PV.isRp p1) then
 bif (true&&true&&(hokV h10 160 (PV.rI p1))) then
 bif (decide (n9≤(PV.num (PV.fld (hvarOf h10 (PV.rI p1)) 1)))) then
 bif (PV.isRp p1) then
 bif (true&&true&&(hokV h10 160 (PV.rI p1))) then
 bif (true&&decide ((0:Int)≤n2)&&decide (n2 < ((PV.rN (PV.fld (hvarOf h10 (PV.rI p1)) 2)):Int))) then
 bif (true&&true&&(hokR h10 143 (PV.rI (PV.fld (hvarOf h10 (PV.rI p1)) 2)) n2)) then
 bif (true&&decide ((0:Int)≤n9)&&decide (n9 < ((PV.rN (List.getD (hrowOf h10 (PV.rI (PV.fld (hvarOf h10 (PV.rI p1)) 2))) (n2).toNat PV.nil)):Int))) then
 bif (true&&true&&(hokR h10 4 (PV.rI (List.getD (hrowOf h10 (PV.rI (PV.fld (hvarOf h10 (PV.rI p1)) 2))) (n2).toNat PV.nil)) n9)) then
 let b11:Bool:=(PV.tt (List.getD (hrowOf h10 (PV.rI (List.getD (hrowOf h10 (PV.rI (PV.fld (hvarOf h10 (PV.rI p1)) 2))) (n2).toNat PV.nil))) (n9).toNat PV.nil))
 bif (b11==true) then
 bif (PV.isRp p1) then
 bif (true&&true&&(hokV h10 160 (PV.rI p1))) then
 c52 (PV.fld (hvarOf h10 (PV.rI p1)) 0) n2 n3 n9 h10 fun b12 h13 =>
 bif b12 then
 ret0 true h13
 else next_w1_0 (IntKind.wrap .i64 (n9+(1:Int))) h13
 else none
 else none
 else next_w1_0 (IntKind.wrap .i64 (n9+(1:Int))) h10
 else none
 else none
 else none
 else none
 else none
 else none
 else ret0 false h10
 else none
 else none

theorem f104_w1b0_mem (k:Nat)(c52:Ch_12)(retF:Bool × (List HE)→R)(NX_w1:St→R)(p1:PV)(n2:Int)(n3:Int)(n9:Int)(h10:List HE):exec (f104_E k c52) f104_cw1 (purgeK (f104_E k c52) f104_cw1 (loopK NX_w1 (kont (f104_E k c52) f104_code [1,0,1,0] (endK (f104_E k c52) Try.f104 [1000000000000] f104_un retF)))) (f104_hw1_0 p1 n2 n3 n9 h10)=f104_w1b0 c52 (fun y0 y1=>retF (y0,y1)) (fun n9 h10=>NX_w1 (f104_hw1_0 p1 n2 n3 n9 h10)) p1 n2 n3 n9 h10:=by kernel_rfl

noncomputable def f104_w1b0N (k:Nat)(c52:Ch_12)(ret0:Bool→(List HE)→R)(next_w1_0:Int→(List HE)→R)(p1:PV)(n2:Int)(n3:Int)(n9:Int)(h10:List HE):R :=
 f104_w1b0 c52 ret0 next_w1_0 p1 n2 n3 n9 h10
theorem f104_w1b0_eq (k:Nat)(c52:Ch_12)(retF:Bool × (List HE)→R)(NX_w1:St→R)(p1:PV)(n2:Int)(n3:Int)(n9:Int)(h10:List HE):exec (f104_E k c52) f104_cw1 (purgeK (f104_E k c52) f104_cw1 (loopK NX_w1 (kont (f104_E k c52) f104_code [1,0,1,0] (endK (f104_E k c52) Try.f104 [1000000000000] f104_un retF)))) (f104_hw1_0 p1 n2 n3 n9 h10)=f104_w1b0N k c52 (fun y0 y1=>retF (y0,y1)) (fun n9 h10=>NX_w1 (f104_hw1_0 p1 n2 n3 n9 h10)) p1 n2 n3 n9 h10 :=
 (f104_w1b0_mem k c52 retF NX_w1 p1 n2 n3 n9 h10)

noncomputable def f104_w1B (k:Nat)(c52:Ch_12)(ret0:Bool→(List HE)→R)(p1:PV)(n2:Int)(n3:Int)(nx:Int × (List HE)→R):Int × (List HE)→R:=(fun s=>f104_w1b0N k c52 ret0 (fun n9 h10=>nx (n9,h10)) p1 n2 n3 s.1 s.2)
noncomputable def f104_w1N (k:Nat)(c52:Ch_12)(ret0:Bool→(List HE)→R)(p1:PV)(n2:Int)(n3:Int)(n9:Int)(h10:List HE):R:=loopR (f104_w1B k c52 ret0 p1 n2 n3) k (n9,h10)
theorem f104_w1_eq (k:Nat)(c52:Ch_12)(retF:Bool × (List HE)→R)(p1:PV)(n2:Int)(n3:Int)(n9:Int)(h10:List HE):f104_w1A k c52 retF p1 n2 n3 n9 h10=f104_w1N k c52 (fun y0 y1=>retF (y0,y1)) p1 n2 n3 n9 h10 :=
 Eq.mp (by kernel_rfl) (loop_sim (E:=(f104_E k c52)) (c:=f104_cw1) (K:=(kont (f104_E k c52) f104_code [1,0,1,0] (endK (f104_E k c52) Try.f104 [1000000000000] f104_un retF))) (S:=Int × (List HE)) (fun s=>f104_hw1_0 p1 n2 n3 s.1 s.2) (f104_w1B k c52 (fun y0 y1=>retF (y0,y1)) p1 n2 n3) (fun NX s=>by
  exact Eq.mp (by kernel_rfl) (f104_w1b0_eq k c52 retF NX p1 n2 n3 s.1 s.2)) k (n9,h10))

noncomputable def f104_e (c52:Ch_12)(ret0:Bool→(List HE)→R)(w1:Int→(List HE)→R)(p1:PV)(n2:Int)(n3:Int)(n4:Int)(h5:List HE):R :=
 w1 n4 h5

theorem f104_e_mem (k:Nat)(c52:Ch_12)(retF:Bool × (List HE)→R)(p1:PV)(n2:Int)(n3:Int)(n4:Int)(h5:List HE):exec (f104_E k c52) f104_code (endK (f104_E k c52) Try.f104 [1000000000000] f104_un retF) ⟨[.hval 137 p1,.int .i64 n2,.int .i64 n3,.int .i64 n4,.undef,.undef,.undef,.undef,.undef,.undef,.undef,.undef,.undef,.undef,.undef,.undef,.undef,.undef,.undef,.undef,.undef,.undef,.undef,.undef,.undef,.undef,.undef,.undef,.undef,.undef,.undef,.undef,.undef,.undef,.undef,.undef,.undef,.undef,.undef],[(1000000000000,.hp h5)]⟩=f104_e c52 (fun y0 y1=>retF (y0,y1)) (fun n9 h10=>f104_w1A k c52 retF p1 n2 n3 n9 h10) p1 n2 n3 n4 h5:=by kernel_rfl

noncomputable def f104_N (k:Nat)(c52:Ch_12)(ret0:Bool→(List HE)→R)(p1:PV)(n2:Int)(n3:Int)(n4:Int)(h5:List HE):R :=
 f104_e c52 ret0 (fun n9 h10=>f104_w1N k c52 ret0 p1 n2 n3 n9 h10) p1 n2 n3 n4 h5
theorem f104_eq (k:Nat)(c52:Ch_12)(retF:Bool × (List HE)→R)(p1:PV)(n2:Int)(n3:Int)(n4:Int)(h5:List HE):exec (f104_E k c52) f104_code (endK (f104_E k c52) Try.f104 [1000000000000] f104_un retF) ⟨[.hval 137 p1,.int .i64 n2,.int .i64 n3,.int .i64 n4,.undef,.undef,.undef,.undef,.undef,.undef,.undef,.undef,.undef,.undef,.undef,.undef,.undef,.undef,.undef,.undef,.undef,.undef,.undef,.undef,.undef,.undef,.undef,.undef,.undef,.undef,.undef,.undef,.undef,.undef,.undef,.undef,.undef,.undef,.undef],[(1000000000000,.hp h5)]⟩=f104_N k c52 (fun y0 y1=>retF (y0,y1)) p1 n2 n3 n4 h5 :=
 (f104_e_mem k c52 retF p1 n2 n3 n4 h5).trans (by rw [show (fun n9 h10=>f104_w1A k c52 retF p1 n2 n3 n9 h10)=(fun n9 h10=>f104_w1N k c52 (fun y0 y1=>retF (y0,y1)) p1 n2 n3 n9 h10) from funext fun n9=>funext fun h10=>f104_w1_eq k c52 retF p1 n2 n3 n9 h10];rfl)

noncomputable def G104:Nat→PV→Int→Int→Int→(List HE)→(Bool→(List HE)→R)→R
 | 0,_,_,_,_,_,_=>none
 | k+1,p1,n2,n3,n4,h5,ret0=>f104_N k (G52 k) ret0 p1 n2 n3 n4 h5
theorem S104:∀ k,Snd Try.prog 104 f104_I f104_O (fun x ret=>G104 k x.1 x.2.1 x.2.2.1 x.2.2.2.1 x.2.2.2.2 (fun y0 y1=>ret (y0,y1)))
 | 0=>snd_none
 | k+1=>snd_step (E:=f104_E k (G52 k)) rfl laidOut noNums (orc_ok (S52 k).o f52_D_ok orc0_ok) (f:=104) (fn:=Try.f104) (code:=f104_code) Try.func104 (by kernel_rfl) (drawsOk_of laidOut (orc_ok (S52 k).o f52_D_ok orc0_ok) mixed (by kernel_rfl)) f104_un f104_un_ok [1000000000000] (fun _=>rfl)
   (fun x ret=>f104_eq k (G52 k) ret x.1 x.2.1 x.2.2.1 x.2.2.2.1 x.2.2.2.2)

noncomputable def f103_I:PV × Int × (List HE)→List SV × Obs:=fun x=>([.hval 137 x.1,.int .i64 x.2.1],[(1000000000000,.hp x.2.2)])
noncomputable def f103_D:List SV→Obs→Option (PV × Int × (List HE))
 | [.hval 137 p1,.int .i64 n2],[(1000000000000,.hp h3)]=>some (p1,n2,h3)
 | _,_=>none
theorem f103_D_ok (args:List SV)(B:Obs)(x:PV × Int × (List HE))(h:f103_D args B=some x):f103_I x=(args,B):=by
 unfold f103_D at h
 split at h
 ·injection h with h;subst h;rfl
 ·cases h
noncomputable def f103_O:(List HE)→Out:=(fun y=>([],[(1000000000000,.hp y)]))
noncomputable def f103_un:Out→Option ((List HE))
 | ([],[(1000000000000,.hp y0)])=>some y0
 | _=>none
theorem f103_un_ok (o:Out)(y:(List HE))(h:f103_un o=some y):o=f103_O y:=by
 unfold f103_un at h
 split at h
 ·injection h with h;subst h;rfl
 ·cases h
noncomputable def f103_msk:Nat→Option (List Nat):=fun key=>bif key==6 then some [0,1,4,22,23,24] else bif key==30 then some [0,4,7,54,55] else bif key==60 then some [0,4,9,10] else none
noncomputable def f103_C (c104:Ch_12):Oracle:=orc 104 f104_D f104_O (fun x ret=>c104 x.1 x.2.1 x.2.2.1 x.2.2.2.1 x.2.2.2.2 (fun y0 y1=>ret (y0,y1))) <| orc0
noncomputable def f103_E (k:Nat)(c104:Ch_12):Env:={ P:=Try.prog,nilOwn:=fun d=>false,fldOwn:=fun d i=>false,ownPar:=ownPars,ownRet:=false,hpD:=fun d=>d==52 || d==87,hpF:=hpFs,hpNew:=false,mask:=f103_msk,fuel:=k,C:=f103_C c104 }
noncomputable def f103_code:Code:=Try.f103.body.getD .skip
noncomputable def f103_cw1:Code:=subC f103_code [1,0,1,0,0]
noncomputable def f103_hw1_0 (p1:PV)(n2:Int)(p4:PV)(n33:Int)(h34:List HE):St:=⟨[.hval 137 p1,.int .i64 n2,.dead,.dead,.ptr 4 [],.dead,.dead,.dead,.dead,.dead,.dead,.dead,.dead,.dead,.dead,.dead,.dead,.dead,.dead,.dead,.dead,.dead,.hval 42 (PV.fld p4 1),.int .i64 ((PV.rN (PV.fld p4 1)):Int),.int .i64 n33,.dead,.dead,.dead,.dead,.dead,.dead,.dead,.dead,.dead,.dead,.dead,.dead,.dead,.dead,.dead,.dead,.dead,.dead,.dead,.dead,.dead,.dead,.dead,.dead,.dead,.dead,.dead,.dead,.dead,.dead,.dead,.dead,.dead,.dead,.dead,.dead,.dead,.dead,.dead,.dead,.dead,.dead,.dead,.dead,.dead,.dead,.dead,.dead,.dead,.dead,.dead,.dead,.dead,.dead,.dead,.dead,.dead,.dead,.dead,.dead,.dead,.dead,.dead,.dead,.dead,.dead,.dead,.dead,.dead,.dead,.dead,.dead,.dead,.dead,.dead,.dead,.dead,.dead,.dead,.dead,.dead,.dead,.dead,.dead,.dead,.dead,.dead,.dead,.dead,.dead,.dead,.dead,.dead,.dead,.dead,.dead,.dead,.dead,.dead,.dead,.dead,.dead,.dead,.dead,.dead,.dead,.dead,.dead],[(4,.box 122 (.hval 122 p4)),(1000000000000,.hp h34)]⟩
noncomputable def f103_w1A (k:Nat)(c104:Ch_12)(retF:(List HE)→R)(p1:PV)(n2:Int)(p4:PV)(n33:Int)(h34:List HE):R:=loopM (f103_E k c104) f103_cw1 (kont (f103_E k c104) f103_code [1,0,1,0] (endK (f103_E k c104) Try.f103 [1000000000000] f103_un retF)) k (f103_hw1_0 p1 n2 p4 n33 h34)
noncomputable def f103_cw4:Code:=subC f103_code [1,1,1,0,1,0,1,0,1,0,0]
noncomputable def f103_hw4_0 (p1:PV)(p4:PV)(h34:List HE)(n42:Int)(h43:List HE):St:=⟨[.hval 137 p1,.dead,.dead,.dead,.ptr 4 [],.dead,.dead,.hval 143 (PV.rs (List.length h34) ((IntKind.wrap .i64 ((PV.num (PV.fld (hvarOf h34 (PV.rI p1)) 1))+(1:Int)))).toNat),.dead,.dead,.dead,.dead,.dead,.dead,.dead,.dead,.dead,.dead,.dead,.dead,.dead,.dead,.dead,.dead,.dead,.dead,.dead,.dead,.dead,.dead,.dead,.dead,.dead,.dead,.dead,.dead,.dead,.dead,.dead,.dead,.dead,.dead,.dead,.dead,.dead,.dead,.dead,.dead,.dead,.dead,.dead,.dead,.dead,.dead,.int .i64 (((IntKind.wrap .i64 ((PV.num (PV.fld (hvarOf h34 (PV.rI p1)) 1))+(1:Int)))).toNat:Int),.int .i64 n42,.dead,.dead,.dead,.dead,.dead,.dead,.dead,.dead,.dead,.dead,.dead,.dead,.dead,.dead,.dead,.dead,.dead,.dead,.dead,.dead,.dead,.dead,.dead,.dead,.dead,.dead,.dead,.dead,.dead,.dead,.dead,.dead,.dead,.dead,.dead,.dead,.dead,.dead,.dead,.dead,.dead,.dead,.dead,.dead,.dead,.dead,.dead,.dead,.dead,.dead,.dead,.dead,.dead,.dead,.dead,.dead,.dead,.dead,.dead,.dead,.dead,.dead,.dead,.dead,.dead,.dead,.dead,.dead,.dead,.dead,.dead,.dead,.dead,.dead,.dead,.dead,.dead],[(4,.box 122 (.hval 122 p4)),(1000000000000,.hp h43)]⟩
noncomputable def f103_w4A (k:Nat)(c104:Ch_12)(retF:(List HE)→R)(p1:PV)(p4:PV)(h34:List HE)(n42:Int)(h43:List HE):R:=loopM (f103_E k c104) f103_cw4 (kont (f103_E k c104) f103_code [1,1,1,0,1,0,1,0,1,0] (endK (f103_E k c104) Try.f103 [1000000000000] f103_un retF)) k (f103_hw4_0 p1 p4 h34 n42 h43)
noncomputable def f103_w4b0 (c104:Ch_12)(ret0:(List HE)→R)(next_w4_0:Int→(List HE)→R)(p1:PV)(p4:PV)(h34:List HE)(n42:Int)(h43:List HE):R :=
 let b44:Bool:=(decide (n42 < (((IntKind.wrap .i64 ((PV.num (PV.fld (hvarOf h34 (PV.rI p1)) 1))+(1:Int)))).toNat:Int)))
 bif b44 then
 bif (true&&decide ((0:Int)≤(1:Int))&&decide ((1:Int) < ((PV.rN (PV.fld p4 1)):Int))) then
 bif (true&&true&&(hokR h43 3 (PV.rI (PV.fld p4 1)) (1:Int))) then
 c104 p1 (PV.num (List.getD (hrowOf h43 (PV.rI (PV.fld p4 1))) ((1:Int)).toNat PV.nil)) n42 n42 h43 fun b45 h46 =>
 bif (true&&decide ((0:Int)≤n42)&&decide (n42 < (((IntKind.wrap .i64 ((PV.num (PV.fld (hvarOf h34 (PV.rI p1)) 1))+(1:Int)))).toNat:Int))) then
 bif (true&&(hokR h46 4 (List.length h34) n42)) then
 let h47:List HE:=(List.set h46 (List.length h34) (HE.row 4 (List.set (hrowOf h46 (List.length h34)) (n42).toNat (PV.bool b45))))
 next_w4_0 (IntKind.wrap .i64 (n42+(1:Int))) h47
 else none
 else none
 else none
 else none
 else bif (PV.isRp p1) then
 bif (true&&true&&(hokV h43 160 (PV.rI p1))) then
 bif (true&&decide ((0:Int)≤(0:Int))&&decide ((0:Int) < ((PV.rN (PV.fld p4 1)):Int))) then
 bif (true&&true&&(hokR h43 3 (PV.rI (PV.fld p4 1)) (0:Int))) then
 bif (true&&decide ((0:Int)≤(PV.num (List.getD (hrowOf h43 (PV.rI (PV.fld p4 1))) ((0:Int)).toNat PV.nil)))&&decide ((PV.num (List.getD (hrowOf h43 (PV.rI (PV.fld p4 1))) ((0:Int)).toNat PV.nil)) < ((PV.rN (PV.fld (hvarOf h43 (PV.rI p1)) 2)):Int))) then
 bif (true&&(hokR h43 143 (PV.rI (PV.fld (hvarOf h43 (PV.rI p1)) 2)) (PV.num (List.getD (hrowOf h43 (PV.rI (PV.fld p4 1))) ((0:Int)).toNat PV.nil)))) then
 let h48:List HE:=(List.set h43 (PV.rI (PV.fld (hvarOf h43 (PV.rI p1)) 2)) (HE.row 143 (List.set (hrowOf h43 (PV.rI (PV.fld (hvarOf h43 (PV.rI p1)) 2))) ((PV.num (List.getD (hrowOf h43 (PV.rI (PV.fld p4 1))) ((0:Int)).toNat PV.nil))).toNat (PV.rs (List.length h34) ((IntKind.wrap .i64 ((PV.num (PV.fld (hvarOf h34 (PV.rI p1)) 1))+(1:Int)))).toNat))))
 ret0 h48
 else none
 else none
 else none
 else none
 else none
 else none

theorem f103_w4b0_mem (k:Nat)(c104:Ch_12)(retF:(List HE)→R)(NX_w4:St→R)(p1:PV)(p4:PV)(h34:List HE)(n42:Int)(h43:List HE):exec (f103_E k c104) f103_cw4 (purgeK (f103_E k c104) f103_cw4 (loopK NX_w4 (kont (f103_E k c104) f103_code [1,1,1,0,1,0,1,0,1,0] (endK (f103_E k c104) Try.f103 [1000000000000] f103_un retF)))) (f103_hw4_0 p1 p4 h34 n42 h43)=f103_w4b0 c104 (fun y0=>retF y0) (fun n42 h43=>NX_w4 (f103_hw4_0 p1 p4 h34 n42 h43)) p1 p4 h34 n42 h43:=by kernel_rfl

noncomputable def f103_w4b0N (k:Nat)(c104:Ch_12)(ret0:(List HE)→R)(next_w4_0:Int→(List HE)→R)(p1:PV)(p4:PV)(h34:List HE)(n42:Int)(h43:List HE):R :=
 f103_w4b0 c104 ret0 next_w4_0 p1 p4 h34 n42 h43
theorem f103_w4b0_eq (k:Nat)(c104:Ch_12)(retF:(List HE)→R)(NX_w4:St→R)(p1:PV)(p4:PV)(h34:List HE)(n42:Int)(h43:List HE):exec (f103_E k c104) f103_cw4 (purgeK (f103_E k c104) f103_cw4 (loopK NX_w4 (kont (f103_E k c104) f103_code [1,1,1,0,1,0,1,0,1,0] (endK (f103_E k c104) Try.f103 [1000000000000] f103_un retF)))) (f103_hw4_0 p1 p4 h34 n42 h43)=f103_w4b0N k c104 (fun y0=>retF y0) (fun n42 h43=>NX_w4 (f103_hw4_0 p1 p4 h34 n42 h43)) p1 p4 h34 n42 h43 :=
 (f103_w4b0_mem k c104 retF NX_w4 p1 p4 h34 n42 h43)

noncomputable def f103_w4B (k:Nat)(c104:Ch_12)(ret0:(List HE)→R)(p1:PV)(p4:PV)(h34:List HE)(nx:Int × (List HE)→R):Int × (List HE)→R:=(fun s=>f103_w4b0N k c104 ret0 (fun n42 h43=>nx (n42,h43)) p1 p4 h34 s.1 s.2)
noncomputable def f103_w4N (k:Nat)(c104:Ch_12)(ret0:(List HE)→R)(p1:PV)(p4:PV)(h34:List HE)(n42:Int)(h43:List HE):R:=loopR (f103_w4B k c104 ret0 p1 p4 h34) k (n42,h43)
theorem f103_w4_eq (k:Nat)(c104:Ch_12)(retF:(List HE)→R)(p1:PV)(p4:PV)(h34:List HE)(n42:Int)(h43:List HE):f103_w4A k c104 retF p1 p4 h34 n42 h43=f103_w4N k c104 (fun y0=>retF y0) p1 p4 h34 n42 h43 :=
 Eq.mp (by kernel_rfl) (loop_sim (E:=(f103_E k c104)) (c:=f103_cw4) (K:=(kont (f103_E k c104) f103_code [1,1,1,0,1,0,1,0,1,0] (endK (f103_E k c104) Try.f103 [1000000000000] f103_un retF))) (S:=Int × (List HE)) (fun s=>f103_hw4_0 p1 p4 h34 s.1 s.2) (f103_w4B k c104 (fun y0=>retF y0) p1 p4 h34) (fun NX s=>by
  exact Eq.mp (by kernel_rfl) (f103_w4b0_eq k c104 retF NX p1 p4 h34 s.1 s.2)) k (n42,h43))

noncomputable def f103_cw5:Code:=subC f103_code [1,1,1,0,1,1,1,0,1,1,1,1,0,0]
noncomputable def f103_hw5_0 (p1:PV)(p4:PV)(h34:List HE)(n57:Int)(h58:List HE):St:=⟨[.hval 137 p1,.dead,.dead,.dead,.ptr 4 [],.dead,.dead,.dead,.dead,.hval 143 (PV.rs (List.length h34) ((IntKind.wrap .i64 ((PV.num (PV.fld (hvarOf h34 (PV.rI p1)) 1))+(1:Int)))).toNat),.int .i64 n57,.dead,.dead,.dead,.dead,.dead,.dead,.dead,.dead,.dead,.dead,.dead,.dead,.dead,.dead,.dead,.dead,.dead,.dead,.dead,.dead,.dead,.dead,.dead,.dead,.dead,.dead,.dead,.dead,.dead,.dead,.dead,.dead,.dead,.dead,.dead,.dead,.dead,.dead,.dead,.dead,.dead,.dead,.dead,.dead,.dead,.dead,.dead,.dead,.dead,.dead,.dead,.dead,.dead,.dead,.dead,.dead,.dead,.dead,.dead,.dead,.dead,.dead,.dead,.dead,.dead,.dead,.dead,.dead,.dead,.dead,.dead,.dead,.dead,.dead,.dead,.dead,.dead,.dead,.dead,.dead,.dead,.dead,.dead,.dead,.dead,.dead,.dead,.dead,.dead,.dead,.dead,.dead,.dead,.dead,.dead,.dead,.dead,.dead,.dead,.dead,.dead,.dead,.dead,.dead,.dead,.dead,.dead,.dead,.dead,.dead,.dead,.dead,.dead,.dead,.dead,.dead,.dead,.dead,.dead,.dead,.dead,.dead],[(4,.box 122 (.hval 122 p4)),(1000000000000,.hp h58)]⟩
noncomputable def f103_w5A (k:Nat)(c104:Ch_12)(retF:(List HE)→R)(p1:PV)(p4:PV)(h34:List HE)(n57:Int)(h58:List HE):R:=loopM (f103_E k c104) f103_cw5 (kont (f103_E k c104) f103_code [1,1,1,0,1,1,1,0,1,1,1,1,0] (endK (f103_E k c104) Try.f103 [1000000000000] f103_un retF)) k (f103_hw5_0 p1 p4 h34 n57 h58)
noncomputable def f103_w5b0 (c104:Ch_12)(ret0:(List HE)→R)(next_w5_0:Int→(List HE)→R)(p1:PV)(p4:PV)(h34:List HE)(n57:Int)(h58:List HE):R :=
 bif (decide ((0:Int)≤n57)) then
 bif (true&&decide ((0:Int)≤n57)&&decide (n57 < (((IntKind.wrap .i64 ((PV.num (PV.fld (hvarOf h34 (PV.rI p1)) 1))+(1:Int)))).toNat:Int))) then
 bif (true&&true&&(hokR h58 4 (List.length h34) n57)) then
 bif ((PV.tt (List.getD (hrowOf h58 (List.length h34)) (n57).toNat PV.nil))==false) then
 bif (true&&decide ((0:Int)≤(0:Int))&&decide ((0:Int) < ((PV.rN (PV.fld p4 1)):Int))) then
 bif (true&&true&&(hokR h58 3 (PV.rI (PV.fld p4 1)) (0:Int))) then
 c104 p1 (PV.num (List.getD (hrowOf h58 (PV.rI (PV.fld p4 1))) ((0:Int)).toNat PV.nil)) n57 (IntKind.wrap .i64 (n57+(1:Int))) h58 fun b59 h60 =>
 bif (true&&decide ((0:Int)≤n57)&&decide (n57 < (((IntKind.wrap .i64 ((PV.num (PV.fld (hvarOf h34 (PV.rI p1)) 1))+(1:Int)))).toNat:Int))) then
 bif (true&&(hokR h60 4 (List.length h34) n57)) then
 let h61:List HE:=(List.set h60 (List.length h34) (HE.row 4 (List.set (hrowOf h60 (List.length h34)) (n57).toNat (PV.bool b59))))
 next_w5_0 (IntKind.wrap .i64 (n57 - (1:Int))) h61
 else none
 else none
 else none
 else none
 else bif (true&&decide ((0:Int)≤n57)&&decide (n57 < (((IntKind.wrap .i64 ((PV.num (PV.fld (hvarOf h34 (PV.rI p1)) 1))+(1:Int)))).toNat:Int))) then
 bif (true&&(hokR h58 4 (List.length h34) n57)) then
 let h62:List HE:=(List.set h58 (List.length h34) (HE.row 4 (List.set (hrowOf h58 (List.length h34)) (n57).toNat (PV.bool true))))
 next_w5_0 (IntKind.wrap .i64 (n57 - (1:Int))) h62
 else none
 else none
 else none
 else none
 else ret0 h58

theorem f103_w5b0_mem (k:Nat)(c104:Ch_12)(retF:(List HE)→R)(NX_w5:St→R)(p1:PV)(p4:PV)(h34:List HE)(n57:Int)(h58:List HE):exec (f103_E k c104) f103_cw5 (purgeK (f103_E k c104) f103_cw5 (loopK NX_w5 (kont (f103_E k c104) f103_code [1,1,1,0,1,1,1,0,1,1,1,1,0] (endK (f103_E k c104) Try.f103 [1000000000000] f103_un retF)))) (f103_hw5_0 p1 p4 h34 n57 h58)=f103_w5b0 c104 (fun y0=>retF y0) (fun n57 h58=>NX_w5 (f103_hw5_0 p1 p4 h34 n57 h58)) p1 p4 h34 n57 h58:=by kernel_rfl

noncomputable def f103_w5b0N (k:Nat)(c104:Ch_12)(ret0:(List HE)→R)(next_w5_0:Int→(List HE)→R)(p1:PV)(p4:PV)(h34:List HE)(n57:Int)(h58:List HE):R :=
 f103_w5b0 c104 ret0 next_w5_0 p1 p4 h34 n57 h58
theorem f103_w5b0_eq (k:Nat)(c104:Ch_12)(retF:(List HE)→R)(NX_w5:St→R)(p1:PV)(p4:PV)(h34:List HE)(n57:Int)(h58:List HE):exec (f103_E k c104) f103_cw5 (purgeK (f103_E k c104) f103_cw5 (loopK NX_w5 (kont (f103_E k c104) f103_code [1,1,1,0,1,1,1,0,1,1,1,1,0] (endK (f103_E k c104) Try.f103 [1000000000000] f103_un retF)))) (f103_hw5_0 p1 p4 h34 n57 h58)=f103_w5b0N k c104 (fun y0=>retF y0) (fun n57 h58=>NX_w5 (f103_hw5_0 p1 p4 h34 n57 h58)) p1 p4 h34 n57 h58 :=
 (f103_w5b0_mem k c104 retF NX_w5 p1 p4 h34 n57 h58)

noncomputable def f103_w5B (k:Nat)(c104:Ch_12)(ret0:(List HE)→R)(p1:PV)(p4:PV)(h34:List HE)(nx:Int × (List HE)→R):Int × (List HE)→R:=(fun s=>f103_w5b0N k c104 ret0 (fun n57 h58=>nx (n57,h58)) p1 p4 h34 s.1 s.2)
noncomputable def f103_w5N (k:Nat)(c104:Ch_12)(ret0:(List HE)→R)(p1:PV)(p4:PV)(h34:List HE)(n57:Int)(h58:List HE):R:=loopR (f103_w5B k c104 ret0 p1 p4 h34) k (n57,h58)
theorem f103_w5_eq (k:Nat)(c104:Ch_12)(retF:(List HE)→R)(p1:PV)(p4:PV)(h34:List HE)(n57:Int)(h58:List HE):f103_w5A k c104 retF p1 p4 h34 n57 h58=f103_w5N k c104 (fun y0=>retF y0) p1 p4 h34 n57 h58 :=
 Eq.mp (by kernel_rfl) (loop_sim (E:=(f103_E k c104)) (c:=f103_cw5) (K:=(kont (f103_E k c104) f103_code [1,1,1,0,1,1,1,0,1,1,1,1,0] (endK (f103_E k c104) Try.f103 [1000000000000] f103_un retF))) (S:=Int × (List HE)) (fun s=>f103_hw5_0 p1 p4 h34 s.1 s.2) (f103_w5B k c104 (fun y0=>retF y0) p1 p4 h34) (fun NX s=>by
  exact Eq.mp (by kernel_rfl) (f103_w5b0_eq k c104 retF NX p1 p4 h34 s.1 s.2)) k (n57,h58))

noncomputable def f103_w1b0 (c104:Ch_12)(ret0:(List HE)→R)(w4:Int→(List HE)→R)(w5:Int→(List HE)→R)(next_w1_0:Int→(List HE)→R)(p1:PV)(n2:Int)(p4:PV)(n33:Int)(h34:List HE):R :=
 bif (decide (n33 < ((PV.rN (PV.fld p4 1)):Int))) then
 bif (true&&decide ((0:Int)≤n33)&&decide (n33 < ((PV.rN (PV.fld p4 1)):Int))) then
 bif (true&&true&&(hokR h34 3 (PV.rI (PV.fld p4 1)) n33)) then
 bif (PV.isRp p1) then
 bif (true&&true&&(hokV h34 160 (PV.rI p1))) then
 bif (PV.isRp p1) then
 bif (true&&true&&(hokV h34 160 (PV.rI p1))) then
 bif (true&&decide ((0:Int)≤n2)&&decide (n2 < ((PV.rN (PV.fld (hvarOf h34 (PV.rI p1)) 2)):Int))) then
 bif (true&&true&&(hokR h34 143 (PV.rI (PV.fld (hvarOf h34 (PV.rI p1)) 2)) n2)) then
 bif (true&&decide ((0:Int)≤(PV.num (List.getD (hrowOf h34 (PV.rI (PV.fld p4 1))) (n33).toNat PV.nil)))&&decide ((PV.num (List.getD (hrowOf h34 (PV.rI (PV.fld p4 1))) (n33).toNat PV.nil)) < ((PV.rN (PV.fld (hvarOf h34 (PV.rI p1)) 2)):Int))) then
 bif (true&&(hokR h34 143 (PV.rI (PV.fld (hvarOf h34 (PV.rI p1)) 2)) (PV.num (List.getD (hrowOf h34 (PV.rI (PV.fld p4 1))) (n33).toNat PV.nil)))) then
 let h35:List HE:=(List.set h34 (PV.rI (PV.fld (hvarOf h34 (PV.rI p1)) 2)) (HE.row 143 (List.set (hrowOf h34 (PV.rI (PV.fld (hvarOf h34 (PV.rI p1)) 2))) ((PV.num (List.getD (hrowOf h34 (PV.rI (PV.fld p4 1))) (n33).toNat PV.nil))).toNat (List.getD (hrowOf h34 (PV.rI (PV.fld (hvarOf h34 (PV.rI p1)) 2))) (n2).toNat PV.nil))))
 next_w1_0 (IntKind.wrap .i64 (n33+(1:Int))) h35
 else none
 else none
 else none
 else none
 else none
 else none
 else none
 else none
 else none
 else none
 else bif (decide ((PV.num (PV.fld (PV.fld p4 0) 0))=(3:Int))) then
 bif (PV.isRp p1) then
 bif (true&&true&&(hokV h34 160 (PV.rI p1))) then
 bif (true&&(true&&decide ((0:Int)≤(IntKind.wrap .i64 ((PV.num (PV.fld (hvarOf h34 (PV.rI p1)) 1))+(1:Int))))&&decide ((IntKind.wrap .i64 ((PV.num (PV.fld (hvarOf h34 (PV.rI p1)) 1))+(1:Int)))=(IntKind.wrap .i64 ((PV.num (PV.fld (hvarOf h34 (PV.rI p1)) 1))+(1:Int))))&&roomy ((IntKind.wrap .i64 ((PV.num (PV.fld (hvarOf h34 (PV.rI p1)) 1))+(1:Int)))).toNat 1)) then
 let h36:List HE:=(h34++[HE.row 4 (List.replicate ((IntKind.wrap .i64 ((PV.num (PV.fld (hvarOf h34 (PV.rI p1)) 1))+(1:Int)))).toNat (PV.bool false))])
 w4 0 h36
 else none
 else none
 else none
 else bif (decide ((PV.num (PV.fld (PV.fld p4 0) 0))=(5:Int))) then
 bif (PV.isRp p1) then
 bif (true&&true&&(hokV h34 160 (PV.rI p1))) then
 bif (true&&(true&&decide ((0:Int)≤(IntKind.wrap .i64 ((PV.num (PV.fld (hvarOf h34 (PV.rI p1)) 1))+(1:Int))))&&decide ((IntKind.wrap .i64 ((PV.num (PV.fld (hvarOf h34 (PV.rI p1)) 1))+(1:Int)))=(IntKind.wrap .i64 ((PV.num (PV.fld (hvarOf h34 (PV.rI p1)) 1))+(1:Int))))&&roomy ((IntKind.wrap .i64 ((PV.num (PV.fld (hvarOf h34 (PV.rI p1)) 1))+(1:Int)))).toNat 1)) then
 let h49:List HE:=(h34++[HE.row 4 (List.replicate ((IntKind.wrap .i64 ((PV.num (PV.fld (hvarOf h34 (PV.rI p1)) 1))+(1:Int)))).toNat (PV.bool false))])
 bif (PV.isRp p1) then
 bif (true&&true&&(hokV h49 160 (PV.rI p1))) then
 bif (true&&decide ((0:Int)≤n2)&&decide (n2 < ((PV.rN (PV.fld (hvarOf h49 (PV.rI p1)) 2)):Int))) then
 bif (true&&true&&(hokR h49 143 (PV.rI (PV.fld (hvarOf h49 (PV.rI p1)) 2)) n2)) then
 bif (hokS h49 4 (PV.rs (List.length h34) ((IntKind.wrap .i64 ((PV.num (PV.fld (hvarOf h34 (PV.rI p1)) 1))+(1:Int)))).toNat)&&hokS h49 4 (List.getD (hrowOf h49 (PV.rI (PV.fld (hvarOf h49 (PV.rI p1)) 2))) (n2).toNat PV.nil)&&(true&&(PV.isRs (List.getD (hrowOf h49 (PV.rI (PV.fld (hvarOf h49 (PV.rI p1)) 2))) (n2).toNat PV.nil)))&&true&&true&&true&&true&&true) then
 let h50:List HE:=(List.set h49 (List.length h34) (HE.row 4 (List.take ((IntKind.wrap .i64 ((PV.num (PV.fld (hvarOf h34 (PV.rI p1)) 1))+(1:Int)))).toNat (hels h49 (List.getD (hrowOf h49 (PV.rI (PV.fld (hvarOf h49 (PV.rI p1)) 2))) (n2).toNat PV.nil))++List.drop (PV.rN (List.getD (hrowOf h49 (PV.rI (PV.fld (hvarOf h49 (PV.rI p1)) 2))) (n2).toNat PV.nil)) (hels h49 (PV.rs (List.length h34) ((IntKind.wrap .i64 ((PV.num (PV.fld (hvarOf h34 (PV.rI p1)) 1))+(1:Int)))).toNat)))))
 bif (PV.isRp p1) then
 bif (true&&true&&(hokV h50 160 (PV.rI p1))) then
 bif (true&&decide ((0:Int)≤(0:Int))&&decide ((0:Int) < ((PV.rN (PV.fld p4 1)):Int))) then
 bif (true&&true&&(hokR h50 3 (PV.rI (PV.fld p4 1)) (0:Int))) then
 bif (true&&decide ((0:Int)≤(PV.num (List.getD (hrowOf h50 (PV.rI (PV.fld p4 1))) ((0:Int)).toNat PV.nil)))&&decide ((PV.num (List.getD (hrowOf h50 (PV.rI (PV.fld p4 1))) ((0:Int)).toNat PV.nil)) < ((PV.rN (PV.fld (hvarOf h50 (PV.rI p1)) 2)):Int))) then
 bif (true&&(hokR h50 143 (PV.rI (PV.fld (hvarOf h50 (PV.rI p1)) 2)) (PV.num (List.getD (hrowOf h50 (PV.rI (PV.fld p4 1))) ((0:Int)).toNat PV.nil)))) then
 let h51:List HE:=(List.set h50 (PV.rI (PV.fld (hvarOf h50 (PV.rI p1)) 2)) (HE.row 143 (List.set (hrowOf h50 (PV.rI (PV.fld (hvarOf h50 (PV.rI p1)) 2))) ((PV.num (List.getD (hrowOf h50 (PV.rI (PV.fld p4 1))) ((0:Int)).toNat PV.nil))).toNat (PV.rs (List.length h34) ((IntKind.wrap .i64 ((PV.num (PV.fld (hvarOf h34 (PV.rI p1)) 1))+(1:Int)))).toNat))))
 bif (PV.isRp p1) then
 bif (true&&true&&(hokV h51 160 (PV.rI p1))) then
 w5 (PV.num (PV.fld (hvarOf h51 (PV.rI p1)) 1)) h51
 else none
 else none
 else none
 else none
 else none
 else none
 else none
 else none
 else none
 else none
 else none
 else none
 else none
 else none
 else none
 else none
 else ret0 h34

theorem f103_w1b0_mem (k:Nat)(c104:Ch_12)(retF:(List HE)→R)(NX_w1:St→R)(p1:PV)(n2:Int)(p4:PV)(n33:Int)(h34:List HE):exec (f103_E k c104) f103_cw1 (purgeK (f103_E k c104) f103_cw1 (loopK NX_w1 (kont (f103_E k c104) f103_code [1,0,1,0] (endK (f103_E k c104) Try.f103 [1000000000000] f103_un retF)))) (f103_hw1_0 p1 n2 p4 n33 h34)=f103_w1b0 c104 (fun y0=>retF y0) (fun n42 h43=>f103_w4A k c104 retF p1 p4 h34 n42 h43) (fun n57 h58=>f103_w5A k c104 retF p1 p4 h34 n57 h58) (fun n33 h34=>NX_w1 (f103_hw1_0 p1 n2 p4 n33 h34)) p1 n2 p4 n33 h34:=by kernel_rfl

noncomputable def f103_w1b0N (k:Nat)(c104:Ch_12)(ret0:(List HE)→R)(next_w1_0:Int→(List HE)→R)(p1:PV)(n2:Int)(p4:PV)(n33:Int)(h34:List HE):R :=
 f103_w1b0 c104 ret0 (fun n42 h43=>f103_w4N k c104 ret0 p1 p4 h34 n42 h43) (fun n57 h58=>f103_w5N k c104 ret0 p1 p4 h34 n57 h58) next_w1_0 p1 n2 p4 n33 h34
theorem f103_w1b0_eq (k:Nat)(c104:Ch_12)(retF:(List HE)→R)(NX_w1:St→R)(p1:PV)(n2:Int)(p4:PV)(n33:Int)(h34:List HE):exec (f103_E k c104) f103_cw1 (purgeK (f103_E k c104) f103_cw1 (loopK NX_w1 (kont (f103_E k c104) f103_code [1,0,1,0] (endK (f103_E k c104) Try.f103 [1000000000000] f103_un retF)))) (f103_hw1_0 p1 n2 p4 n33 h34)=f103_w1b0N k c104 (fun y0=>retF y0) (fun n33 h34=>NX_w1 (f103_hw1_0 p1 n2 p4 n33 h34)) p1 n2 p4 n33 h34 :=
 (f103_w1b0_mem k c104 retF NX_w1 p1 n2 p4 n33 h34).trans (by rw [show (fun n42 h43=>f103_w4A k c104 retF p1 p4 h34 n42 h43)=(fun n42 h43=>f103_w4N k c104 (fun y0=>retF y0) p1 p4 h34 n42 h43) from funext fun n42=>funext fun h43=>f103_w4_eq k c104 retF p1 p4 h34 n42 h43,show (fun n57 h58=>f103_w5A k c104 retF p1 p4 h34 n57 h58)=(fun n57 h58=>f103_w5N k c104 (fun y0=>retF y0) p1 p4 h34 n57 h58) from funext fun n57=>funext fun h58=>f103_w5_eq k c104 retF p1 p4 h34 n57 h58];rfl)

noncomputable def f103_w1B (k:Nat)(c104:Ch_12)(ret0:(List HE)→R)(p1:PV)(n2:Int)(p4:PV)(nx:Int × (List HE)→R):Int × (List HE)→R:=(fun s=>f103_w1b0N k c104 ret0 (fun n33 h34=>nx (n33,h34)) p1 n2 p4 s.1 s.2)
noncomputable def f103_w1N (k:Nat)(c104:Ch_12)(ret0:(List HE)→R)(p1:PV)(n2:Int)(p4:PV)(n33:Int)(h34:List HE):R:=loopR (f103_w1B k c104 ret0 p1 n2 p4) k (n33,h34)
theorem f103_w1_eq (k:Nat)(c104:Ch_12)(retF:(List HE)→R)(p1:PV)(n2:Int)(p4:PV)(n33:Int)(h34:List HE):f103_w1A k c104 retF p1 n2 p4 n33 h34=f103_w1N k c104 (fun y0=>retF y0) p1 n2 p4 n33 h34 :=
 Eq.mp (by kernel_rfl) (loop_sim (E:=(f103_E k c104)) (c:=f103_cw1) (K:=(kont (f103_E k c104) f103_code [1,0,1,0] (endK (f103_E k c104) Try.f103 [1000000000000] f103_un retF))) (S:=Int × (List HE)) (fun s=>f103_hw1_0 p1 n2 p4 s.1 s.2) (f103_w1B k c104 (fun y0=>retF y0) p1 n2 p4) (fun NX s=>by
  exact Eq.mp (by kernel_rfl) (f103_w1b0_eq k c104 retF NX p1 n2 p4 s.1 s.2)) k (n33,h34))

noncomputable def f103_e (c104:Ch_12)(ret0:(List HE)→R)(w1:PV→Int→(List HE)→R)(p1:PV)(n2:Int)(h3:List HE):R :=
 bif (PV.isRp p1) then
 bif (true&&true&&(hokV h3 160 (PV.rI p1))) then
 bif (PV.isRp (PV.fld (hvarOf h3 (PV.rI p1)) 0)) then
 bif (true&&true&&(hokV h3 116 (PV.rI (PV.fld (hvarOf h3 (PV.rI p1)) 0)))) then
 bif (true&&decide ((0:Int)≤n2)&&decide (n2 < ((PV.rN (PV.fld (hvarOf h3 (PV.rI (PV.fld (hvarOf h3 (PV.rI p1)) 0))) 0)):Int))) then
 bif (true&&true&&(hokR h3 122 (PV.rI (PV.fld (hvarOf h3 (PV.rI (PV.fld (hvarOf h3 (PV.rI p1)) 0))) 0)) n2)) then
 let p4:PV:=(List.getD (hrowOf h3 (PV.rI (PV.fld (hvarOf h3 (PV.rI (PV.fld (hvarOf h3 (PV.rI p1)) 0))) 0))) (n2).toNat PV.nil)
 w1 p4 0 h3
 else none
 else none
 else none
 else none
 else none
 else none

theorem f103_e_mem (k:Nat)(c104:Ch_12)(retF:(List HE)→R)(p1:PV)(n2:Int)(h3:List HE):exec (f103_E k c104) f103_code (endK (f103_E k c104) Try.f103 [1000000000000] f103_un retF) ⟨[.hval 137 p1,.int .i64 n2,.undef,.undef,.undef,.undef,.undef,.undef,.undef,.undef,.undef,.undef,.undef,.undef,.undef,.undef,.undef,.undef,.undef,.undef,.undef,.undef,.undef,.undef,.undef,.undef,.undef,.undef,.undef,.undef,.undef,.undef,.undef,.undef,.undef,.undef,.undef,.undef,.undef,.undef,.undef,.undef,.undef,.undef,.undef,.undef,.undef,.undef,.undef,.undef,.undef,.undef,.undef,.undef,.undef,.undef,.undef,.undef,.undef,.undef,.undef,.undef,.undef,.undef,.undef,.undef,.undef,.undef,.undef,.undef,.undef,.undef,.undef,.undef,.undef,.undef,.undef,.undef,.undef,.undef,.undef,.undef,.undef,.undef,.undef,.undef,.undef,.undef,.undef,.undef,.undef,.undef,.undef,.undef,.undef,.undef,.undef,.undef,.undef,.undef,.undef,.undef,.undef,.undef,.undef,.undef,.undef,.undef,.undef,.undef,.undef,.undef,.undef,.undef,.undef,.undef,.undef,.undef,.undef,.undef,.undef,.undef,.undef,.undef,.undef,.undef,.undef,.undef,.undef,.undef,.undef,.undef,.undef],[(1000000000000,.hp h3)]⟩=f103_e c104 (fun y0=>retF y0) (fun p4 n33 h34=>f103_w1A k c104 retF p1 n2 p4 n33 h34) p1 n2 h3:=by kernel_rfl

noncomputable def f103_N (k:Nat)(c104:Ch_12)(ret0:(List HE)→R)(p1:PV)(n2:Int)(h3:List HE):R :=
 f103_e c104 ret0 (fun p4 n33 h34=>f103_w1N k c104 ret0 p1 n2 p4 n33 h34) p1 n2 h3
theorem f103_eq (k:Nat)(c104:Ch_12)(retF:(List HE)→R)(p1:PV)(n2:Int)(h3:List HE):exec (f103_E k c104) f103_code (endK (f103_E k c104) Try.f103 [1000000000000] f103_un retF) ⟨[.hval 137 p1,.int .i64 n2,.undef,.undef,.undef,.undef,.undef,.undef,.undef,.undef,.undef,.undef,.undef,.undef,.undef,.undef,.undef,.undef,.undef,.undef,.undef,.undef,.undef,.undef,.undef,.undef,.undef,.undef,.undef,.undef,.undef,.undef,.undef,.undef,.undef,.undef,.undef,.undef,.undef,.undef,.undef,.undef,.undef,.undef,.undef,.undef,.undef,.undef,.undef,.undef,.undef,.undef,.undef,.undef,.undef,.undef,.undef,.undef,.undef,.undef,.undef,.undef,.undef,.undef,.undef,.undef,.undef,.undef,.undef,.undef,.undef,.undef,.undef,.undef,.undef,.undef,.undef,.undef,.undef,.undef,.undef,.undef,.undef,.undef,.undef,.undef,.undef,.undef,.undef,.undef,.undef,.undef,.undef,.undef,.undef,.undef,.undef,.undef,.undef,.undef,.undef,.undef,.undef,.undef,.undef,.undef,.undef,.undef,.undef,.undef,.undef,.undef,.undef,.undef,.undef,.undef,.undef,.undef,.undef,.undef,.undef,.undef,.undef,.undef,.undef,.undef,.undef,.undef,.undef,.undef,.undef,.undef,.undef],[(1000000000000,.hp h3)]⟩=f103_N k c104 (fun y0=>retF y0) p1 n2 h3 :=
 (f103_e_mem k c104 retF p1 n2 h3).trans (by rw [show (fun p4 n33 h34=>f103_w1A k c104 retF p1 n2 p4 n33 h34)=(fun p4 n33 h34=>f103_w1N k c104 (fun y0=>retF y0) p1 n2 p4 n33 h34) from funext fun p4=>funext fun n33=>funext fun h34=>f103_w1_eq k c104 retF p1 n2 p4 n33 h34];rfl)

noncomputable def G103:Nat→PV→Int→(List HE)→((List HE)→R)→R
 | 0,_,_,_,_=>none
 | k+1,p1,n2,h3,ret0=>f103_N k (G104 k) ret0 p1 n2 h3
theorem S103:∀ k,Snd Try.prog 103 f103_I f103_O (fun x ret=>G103 k x.1 x.2.1 x.2.2 (fun y0=>ret y0))
 | 0=>snd_none
 | k+1=>snd_step (E:=f103_E k (G104 k)) rfl laidOut noNums (orc_ok (S104 k).o f104_D_ok orc0_ok) (f:=103) (fn:=Try.f103) (code:=f103_code) Try.func103 (by kernel_rfl) (drawsOk_of laidOut (orc_ok (S104 k).o f104_D_ok orc0_ok) mixed (by kernel_rfl)) f103_un f103_un_ok [1000000000000] (fun _=>rfl)
   (fun x ret=>f103_eq k (G104 k) ret x.1 x.2.1 x.2.2)

noncomputable def f89_I:PV × PV × Bool × (List HE)→List SV × Obs:=fun x=>([.val 28 x.1,.val 36 x.2.1,.bool x.2.2.1],[(1000000000000,.hp x.2.2.2)])
noncomputable def f89_D:List SV→Obs→Option (PV × PV × Bool × (List HE))
 | [.val 28 p1,.val 36 p2,.bool b3],[(1000000000000,.hp h4)]=>some (p1,p2,b3,h4)
 | _,_=>none
theorem f89_D_ok (args:List SV)(B:Obs)(x:PV × PV × Bool × (List HE))(h:f89_D args B=some x):f89_I x=(args,B):=by
 unfold f89_D at h
 split at h
 ·injection h with h;subst h;rfl
 ·cases h
noncomputable def f89_O:PV × Int × (List HE)→Out:=(fun y=>([.hval 137 y.1,.int .i64 y.2.1],[(1000000000000,.hp y.2.2)]))
noncomputable def f89_un:Out→Option (PV × Int × (List HE))
 | ([.hval 137 y0,.int .i64 y1],[(1000000000000,.hp y2)])=>some (y0,y1,y2)
 | _=>none
theorem f89_un_ok (o:Out)(y:PV × Int × (List HE))(h:f89_un o=some y):o=f89_O y:=by
 unfold f89_un at h
 split at h
 ·injection h with h;subst h;rfl
 ·cases h
noncomputable def f89_msk:Nat→Option (List Nat):=fun key=>bif key==24 then some [2,9,54,55] else bif key==39 then some [9,84,85] else none
noncomputable def f89_C (c49:Ch_13)(c50:Ch_14)(c103:Ch_10):Oracle:=orc 49 f49_D f49_O (fun x ret=>c49 x.1 x.2 (fun y0=>ret y0)) <| orc 50 f50_D f50_O (fun x ret=>c50 x.1 x.2.1 x.2.2 (fun y0 y1=>ret (y0,y1))) <| orc 103 f103_D f103_O (fun x ret=>c103 x.1 x.2.1 x.2.2 (fun y0=>ret y0)) <| orc0
noncomputable def f89_E (k:Nat)(c49:Ch_13)(c50:Ch_14)(c103:Ch_10):Env:={ P:=Try.prog,nilOwn:=fun d=>false,fldOwn:=fun d i=>false,ownPar:=ownPars,ownRet:=false,hpD:=fun d=>d==23 || d==24 || d==34 || d==46,hpF:=hpFs,hpNew:=false,mask:=f89_msk,fuel:=k,C:=f89_C c49 c50 c103 }
noncomputable def f89_code:Code:=Try.f89.body.getD .skip
noncomputable def f89_cw1:Code:=subC f89_code [1,1,1,1,1,0,1,0,0]
noncomputable def f89_hw1_0 (b3:Bool)(h7:List HE)(n13:Int)(n22:Int)(h23:List HE):St:=⟨[.dead,.dead,.bool b3,.dead,.dead,.dead,.dead,.dead,.dead,.hptr 160 (List.length h7) [],.dead,.dead,.dead,.dead,.dead,.dead,.dead,.dead,.dead,.dead,.dead,.dead,.dead,.dead,.dead,.dead,.dead,.dead,.dead,.dead,.dead,.dead,.dead,.dead,.dead,.dead,.dead,.dead,.dead,.dead,.dead,.dead,.dead,.dead,.dead,.dead,.dead,.dead,.dead,.dead,.dead,.dead,.dead,.dead,.int .i64 n13,.int .i64 n22,.dead,.dead,.dead,.dead,.dead,.dead,.dead,.dead,.dead,.dead,.dead,.dead,.dead,.dead,.dead,.dead,.dead,.dead,.dead,.dead,.dead,.dead,.dead,.dead,.dead,.dead,.dead,.dead,.dead,.dead,.dead,.dead,.dead,.dead,.dead,.dead,.dead],[(1000000000000,.hp h23)]⟩
noncomputable def f89_w1A (k:Nat)(c49:Ch_13)(c50:Ch_14)(c103:Ch_10)(retF:PV × Int × (List HE)→R)(b3:Bool)(h7:List HE)(n13:Int)(n22:Int)(h23:List HE):R:=loopM (f89_E k c49 c50 c103) f89_cw1 (kont (f89_E k c49 c50 c103) f89_code [1,1,1,1,1,0,1,0] (endK (f89_E k c49 c50 c103) Try.f89 [1000000000000] f89_un retF)) k (f89_hw1_0 b3 h7 n13 n22 h23)
noncomputable def f89_cw3:Code:=subC f89_code [1,1,1,1,1,1,0,1,0,0]
noncomputable def f89_hw3_0 (h7:List HE)(h23:List HE)(n28:Int)(h29:List HE):St:=⟨[.dead,.dead,.dead,.dead,.dead,.dead,.dead,.dead,.dead,.hptr 160 (List.length h7) [],.dead,.dead,.dead,.dead,.dead,.dead,.dead,.dead,.dead,.dead,.dead,.dead,.dead,.dead,.dead,.dead,.dead,.dead,.dead,.dead,.dead,.dead,.dead,.dead,.dead,.dead,.dead,.dead,.dead,.dead,.dead,.dead,.dead,.dead,.dead,.dead,.dead,.dead,.dead,.dead,.dead,.dead,.dead,.dead,.dead,.dead,.dead,.dead,.dead,.dead,.dead,.dead,.dead,.dead,.dead,.dead,.dead,.dead,.dead,.dead,.dead,.dead,.dead,.dead,.dead,.dead,.dead,.dead,.dead,.dead,.dead,.dead,.dead,.dead,.int .i64 ((PV.rN (PV.fld (hvarOf h23 (PV.rI (PV.fld (hvarOf h23 (List.length h7)) 0))) 0)):Int),.int .i64 n28,.dead,.dead,.dead,.dead,.dead,.dead,.dead],[(1000000000000,.hp h29)]⟩
noncomputable def f89_w3A (k:Nat)(c49:Ch_13)(c50:Ch_14)(c103:Ch_10)(retF:PV × Int × (List HE)→R)(h7:List HE)(h23:List HE)(n28:Int)(h29:List HE):R:=loopM (f89_E k c49 c50 c103) f89_cw3 (kont (f89_E k c49 c50 c103) f89_code [1,1,1,1,1,1,0,1,0] (endK (f89_E k c49 c50 c103) Try.f89 [1000000000000] f89_un retF)) k (f89_hw3_0 h7 h23 n28 h29)
noncomputable def f89_w3b0 (c49:Ch_13)(c50:Ch_14)(c103:Ch_10)(ret0:PV→Int→(List HE)→R)(next_w3_0:Int→(List HE)→R)(h7:List HE)(h23:List HE)(n28:Int)(h29:List HE):R :=
 let b30:Bool:=(decide (n28 < ((PV.rN (PV.fld (hvarOf h23 (PV.rI (PV.fld (hvarOf h23 (List.length h7)) 0))) 0)):Int)))
 bif b30 then
 c103 (PV.rp (List.length h7)) n28 h29 fun h31 =>
 next_w3_0 (IntKind.wrap .i64 (n28+(1:Int))) h31
 else ret0 (PV.rp (List.length h7)) 0 h29

theorem f89_w3b0_mem (k:Nat)(c49:Ch_13)(c50:Ch_14)(c103:Ch_10)(retF:PV × Int × (List HE)→R)(NX_w3:St→R)(h7:List HE)(h23:List HE)(n28:Int)(h29:List HE):exec (f89_E k c49 c50 c103) f89_cw3 (purgeK (f89_E k c49 c50 c103) f89_cw3 (loopK NX_w3 (kont (f89_E k c49 c50 c103) f89_code [1,1,1,1,1,1,0,1,0] (endK (f89_E k c49 c50 c103) Try.f89 [1000000000000] f89_un retF)))) (f89_hw3_0 h7 h23 n28 h29)=f89_w3b0 c49 c50 c103 (fun y0 y1 y2=>retF (y0,y1,y2)) (fun n28 h29=>NX_w3 (f89_hw3_0 h7 h23 n28 h29)) h7 h23 n28 h29:=by kernel_rfl

noncomputable def f89_w3b0N (k:Nat)(c49:Ch_13)(c50:Ch_14)(c103:Ch_10)(ret0:PV→Int→(List HE)→R)(next_w3_0:Int→(List HE)→R)(h7:List HE)(h23:List HE)(n28:Int)(h29:List HE):R :=
 f89_w3b0 c49 c50 c103 ret0 next_w3_0 h7 h23 n28 h29
theorem f89_w3b0_eq (k:Nat)(c49:Ch_13)(c50:Ch_14)(c103:Ch_10)(retF:PV × Int × (List HE)→R)(NX_w3:St→R)(h7:List HE)(h23:List HE)(n28:Int)(h29:List HE):exec (f89_E k c49 c50 c103) f89_cw3 (purgeK (f89_E k c49 c50 c103) f89_cw3 (loopK NX_w3 (kont (f89_E k c49 c50 c103) f89_code [1,1,1,1,1,1,0,1,0] (endK (f89_E k c49 c50 c103) Try.f89 [1000000000000] f89_un retF)))) (f89_hw3_0 h7 h23 n28 h29)=f89_w3b0N k c49 c50 c103 (fun y0 y1 y2=>retF (y0,y1,y2)) (fun n28 h29=>NX_w3 (f89_hw3_0 h7 h23 n28 h29)) h7 h23 n28 h29 :=
 (f89_w3b0_mem k c49 c50 c103 retF NX_w3 h7 h23 n28 h29)

noncomputable def f89_w3B (k:Nat)(c49:Ch_13)(c50:Ch_14)(c103:Ch_10)(ret0:PV→Int→(List HE)→R)(h7:List HE)(h23:List HE)(nx:Int × (List HE)→R):Int × (List HE)→R:=(fun s=>f89_w3b0N k c49 c50 c103 ret0 (fun n28 h29=>nx (n28,h29)) h7 h23 s.1 s.2)
noncomputable def f89_w3N (k:Nat)(c49:Ch_13)(c50:Ch_14)(c103:Ch_10)(ret0:PV→Int→(List HE)→R)(h7:List HE)(h23:List HE)(n28:Int)(h29:List HE):R:=loopR (f89_w3B k c49 c50 c103 ret0 h7 h23) k (n28,h29)
theorem f89_w3_eq (k:Nat)(c49:Ch_13)(c50:Ch_14)(c103:Ch_10)(retF:PV × Int × (List HE)→R)(h7:List HE)(h23:List HE)(n28:Int)(h29:List HE):f89_w3A k c49 c50 c103 retF h7 h23 n28 h29=f89_w3N k c49 c50 c103 (fun y0 y1 y2=>retF (y0,y1,y2)) h7 h23 n28 h29 :=
 Eq.mp (by kernel_rfl) (loop_sim (E:=(f89_E k c49 c50 c103)) (c:=f89_cw3) (K:=(kont (f89_E k c49 c50 c103) f89_code [1,1,1,1,1,1,0,1,0] (endK (f89_E k c49 c50 c103) Try.f89 [1000000000000] f89_un retF))) (S:=Int × (List HE)) (fun s=>f89_hw3_0 h7 h23 s.1 s.2) (f89_w3B k c49 c50 c103 (fun y0 y1 y2=>retF (y0,y1,y2)) h7 h23) (fun NX s=>by
  exact Eq.mp (by kernel_rfl) (f89_w3b0_eq k c49 c50 c103 retF NX h7 h23 s.1 s.2)) k (n28,h29))

noncomputable def f89_w1b0 (c49:Ch_13)(c50:Ch_14)(c103:Ch_10)(ret0:PV→Int→(List HE)→R)(w3:Int→(List HE)→R)(next_w1_0:Int→(List HE)→R)(b3:Bool)(h7:List HE)(n13:Int)(n22:Int)(h23:List HE):R :=
 bif (decide (n22 < n13)) then
 bif (true&&true&&(hokV h23 160 (List.length h7))) then
 bif (true&&decide ((0:Int)≤(0:Int))&&decide ((0:Int) < ((PV.rN (PV.fld (hvarOf h23 (List.length h7)) 2)):Int))) then
 bif (true&&true&&(hokR h23 143 (PV.rI (PV.fld (hvarOf h23 (List.length h7)) 2)) (0:Int))) then
 bif ((!b3)==false) then
 bif (true&&true&&(hokV h23 160 (List.length h7))) then
 bif (true&&decide ((0:Int)≤n22)&&decide (n22 < ((PV.rN (List.getD (hrowOf h23 (PV.rI (PV.fld (hvarOf h23 (List.length h7)) 2))) ((0:Int)).toNat PV.nil)):Int))) then
 bif (true&&(hokR h23 4 (PV.rI (List.getD (hrowOf h23 (PV.rI (PV.fld (hvarOf h23 (List.length h7)) 2))) ((0:Int)).toNat PV.nil)) n22)) then
 let h24:List HE:=(List.set h23 (PV.rI (List.getD (hrowOf h23 (PV.rI (PV.fld (hvarOf h23 (List.length h7)) 2))) ((0:Int)).toNat PV.nil)) (HE.row 4 (List.set (hrowOf h23 (PV.rI (List.getD (hrowOf h23 (PV.rI (PV.fld (hvarOf h23 (List.length h7)) 2))) ((0:Int)).toNat PV.nil))) (n22).toNat (PV.bool (decide (n22=(PV.num (PV.fld (hvarOf h23 (List.length h7)) 1))))))))
 next_w1_0 (IntKind.wrap .i64 (n22+(1:Int))) h24
 else none
 else none
 else none
 else bif (true&&decide ((0:Int)≤n22)&&decide (n22 < ((PV.rN (List.getD (hrowOf h23 (PV.rI (PV.fld (hvarOf h23 (List.length h7)) 2))) ((0:Int)).toNat PV.nil)):Int))) then
 bif (true&&(hokR h23 4 (PV.rI (List.getD (hrowOf h23 (PV.rI (PV.fld (hvarOf h23 (List.length h7)) 2))) ((0:Int)).toNat PV.nil)) n22)) then
 let h25:List HE:=(List.set h23 (PV.rI (List.getD (hrowOf h23 (PV.rI (PV.fld (hvarOf h23 (List.length h7)) 2))) ((0:Int)).toNat PV.nil)) (HE.row 4 (List.set (hrowOf h23 (PV.rI (List.getD (hrowOf h23 (PV.rI (PV.fld (hvarOf h23 (List.length h7)) 2))) ((0:Int)).toNat PV.nil))) (n22).toNat (PV.bool true))))
 next_w1_0 (IntKind.wrap .i64 (n22+(1:Int))) h25
 else none
 else none
 else none
 else none
 else none
 else bif (true&&true&&(hokV h23 160 (List.length h7))) then
 bif (PV.isRp (PV.fld (hvarOf h23 (List.length h7)) 0)) then
 bif (true&&true&&(hokV h23 116 (PV.rI (PV.fld (hvarOf h23 (List.length h7)) 0)))) then
 w3 0 h23
 else none
 else none
 else none

theorem f89_w1b0_mem (k:Nat)(c49:Ch_13)(c50:Ch_14)(c103:Ch_10)(retF:PV × Int × (List HE)→R)(NX_w1:St→R)(b3:Bool)(h7:List HE)(n13:Int)(n22:Int)(h23:List HE):exec (f89_E k c49 c50 c103) f89_cw1 (purgeK (f89_E k c49 c50 c103) f89_cw1 (loopK NX_w1 (kont (f89_E k c49 c50 c103) f89_code [1,1,1,1,1,0,1,0] (endK (f89_E k c49 c50 c103) Try.f89 [1000000000000] f89_un retF)))) (f89_hw1_0 b3 h7 n13 n22 h23)=f89_w1b0 c49 c50 c103 (fun y0 y1 y2=>retF (y0,y1,y2)) (fun n28 h29=>f89_w3A k c49 c50 c103 retF h7 h23 n28 h29) (fun n22 h23=>NX_w1 (f89_hw1_0 b3 h7 n13 n22 h23)) b3 h7 n13 n22 h23:=by kernel_rfl

noncomputable def f89_w1b0N (k:Nat)(c49:Ch_13)(c50:Ch_14)(c103:Ch_10)(ret0:PV→Int→(List HE)→R)(next_w1_0:Int→(List HE)→R)(b3:Bool)(h7:List HE)(n13:Int)(n22:Int)(h23:List HE):R :=
 f89_w1b0 c49 c50 c103 ret0 (fun n28 h29=>f89_w3N k c49 c50 c103 ret0 h7 h23 n28 h29) next_w1_0 b3 h7 n13 n22 h23
theorem f89_w1b0_eq (k:Nat)(c49:Ch_13)(c50:Ch_14)(c103:Ch_10)(retF:PV × Int × (List HE)→R)(NX_w1:St→R)(b3:Bool)(h7:List HE)(n13:Int)(n22:Int)(h23:List HE):exec (f89_E k c49 c50 c103) f89_cw1 (purgeK (f89_E k c49 c50 c103) f89_cw1 (loopK NX_w1 (kont (f89_E k c49 c50 c103) f89_code [1,1,1,1,1,0,1,0] (endK (f89_E k c49 c50 c103) Try.f89 [1000000000000] f89_un retF)))) (f89_hw1_0 b3 h7 n13 n22 h23)=f89_w1b0N k c49 c50 c103 (fun y0 y1 y2=>retF (y0,y1,y2)) (fun n22 h23=>NX_w1 (f89_hw1_0 b3 h7 n13 n22 h23)) b3 h7 n13 n22 h23 :=
 (f89_w1b0_mem k c49 c50 c103 retF NX_w1 b3 h7 n13 n22 h23).trans (by rw [show (fun n28 h29=>f89_w3A k c49 c50 c103 retF h7 h23 n28 h29)=(fun n28 h29=>f89_w3N k c49 c50 c103 (fun y0 y1 y2=>retF (y0,y1,y2)) h7 h23 n28 h29) from funext fun n28=>funext fun h29=>f89_w3_eq k c49 c50 c103 retF h7 h23 n28 h29];rfl)

noncomputable def f89_w1B (k:Nat)(c49:Ch_13)(c50:Ch_14)(c103:Ch_10)(ret0:PV→Int→(List HE)→R)(b3:Bool)(h7:List HE)(n13:Int)(nx:Int × (List HE)→R):Int × (List HE)→R:=(fun s=>f89_w1b0N k c49 c50 c103 ret0 (fun n22 h23=>nx (n22,h23)) b3 h7 n13 s.1 s.2)
noncomputable def f89_w1N (k:Nat)(c49:Ch_13)(c50:Ch_14)(c103:Ch_10)(ret0:PV→Int→(List HE)→R)(b3:Bool)(h7:List HE)(n13:Int)(n22:Int)(h23:List HE):R:=loopR (f89_w1B k c49 c50 c103 ret0 b3 h7 n13) k (n22,h23)
theorem f89_w1_eq (k:Nat)(c49:Ch_13)(c50:Ch_14)(c103:Ch_10)(retF:PV × Int × (List HE)→R)(b3:Bool)(h7:List HE)(n13:Int)(n22:Int)(h23:List HE):f89_w1A k c49 c50 c103 retF b3 h7 n13 n22 h23=f89_w1N k c49 c50 c103 (fun y0 y1 y2=>retF (y0,y1,y2)) b3 h7 n13 n22 h23 :=
 Eq.mp (by kernel_rfl) (loop_sim (E:=(f89_E k c49 c50 c103)) (c:=f89_cw1) (K:=(kont (f89_E k c49 c50 c103) f89_code [1,1,1,1,1,0,1,0] (endK (f89_E k c49 c50 c103) Try.f89 [1000000000000] f89_un retF))) (S:=Int × (List HE)) (fun s=>f89_hw1_0 b3 h7 n13 s.1 s.2) (f89_w1B k c49 c50 c103 (fun y0 y1 y2=>retF (y0,y1,y2)) b3 h7 n13) (fun NX s=>by
  exact Eq.mp (by kernel_rfl) (f89_w1b0_eq k c49 c50 c103 retF NX b3 h7 n13 s.1 s.2)) k (n22,h23))

noncomputable def f89_e (c49:Ch_13)(c50:Ch_14)(c103:Ch_10)(ret0:PV→Int→(List HE)→R)(w1:(List HE)→Int→Int→(List HE)→R)(p1:PV)(p2:PV)(b3:Bool)(h4:List HE):R :=
 c49 p1 p2 fun n5 =>
 bif (!(decide (n5=(0:Int)))) then
 ret0 PV.nil n5 h4
 else c50 p1 p2 h4 fun p6 h7 =>
 let h8:List HE:=(h7++[HE.var 160 (PV.agg [p6,(PV.int (List.length (PV.els p2):Int)),(PV.list [])])])
 bif (true&&true&&(hokV h8 160 (List.length h7))) then
 bif (PV.isRp (PV.fld (hvarOf h8 (List.length h7)) 0)) then
 bif (true&&true&&(hokV h8 116 (PV.rI (PV.fld (hvarOf h8 (List.length h7)) 0)))) then
 bif (true&&(true&&decide ((0:Int)≤((PV.rN (PV.fld (hvarOf h8 (PV.rI (PV.fld (hvarOf h8 (List.length h7)) 0))) 0)):Int))&&decide (((PV.rN (PV.fld (hvarOf h8 (PV.rI (PV.fld (hvarOf h8 (List.length h7)) 0))) 0)):Int)=((PV.rN (PV.fld (hvarOf h8 (PV.rI (PV.fld (hvarOf h8 (List.length h7)) 0))) 0)):Int))&&roomy (((PV.rN (PV.fld (hvarOf h8 (PV.rI (PV.fld (hvarOf h8 (List.length h7)) 0))) 0)):Int)).toNat 24)) then
 let h9:List HE:=(h8++[HE.row 143 (List.replicate (((PV.rN (PV.fld (hvarOf h8 (PV.rI (PV.fld (hvarOf h8 (List.length h7)) 0))) 0)):Int)).toNat (PV.list []))])
 bif (true&&(hokV h9 160 (List.length h7))) then
 let h10:List HE:=(List.set h9 (List.length h7) (HE.var 160 (PV.agg (List.set (PV.flds (hvarOf h9 (List.length h7))) 2 (PV.rs (List.length h8) (((PV.rN (PV.fld (hvarOf h8 (PV.rI (PV.fld (hvarOf h8 (List.length h7)) 0))) 0)):Int)).toNat)))))
 bif (true&&true&&(hokV h10 160 (List.length h7))) then
 bif (true&&true&&(hokV h10 160 (List.length h7))) then
 bif (true&&(true&&decide ((0:Int)≤(IntKind.wrap .i64 ((PV.num (PV.fld (hvarOf h10 (List.length h7)) 1))+(1:Int))))&&decide ((IntKind.wrap .i64 ((PV.num (PV.fld (hvarOf h10 (List.length h7)) 1))+(1:Int)))=(IntKind.wrap .i64 ((PV.num (PV.fld (hvarOf h10 (List.length h7)) 1))+(1:Int))))&&roomy ((IntKind.wrap .i64 ((PV.num (PV.fld (hvarOf h10 (List.length h7)) 1))+(1:Int)))).toNat 1)) then
 bif (true&&decide ((0:Int)≤(0:Int))&&decide ((0:Int) < ((PV.rN (PV.fld (hvarOf h10 (List.length h7)) 2)):Int))) then
 let h11:List HE:=(h10++[HE.row 4 (List.replicate ((IntKind.wrap .i64 ((PV.num (PV.fld (hvarOf h10 (List.length h7)) 1))+(1:Int)))).toNat (PV.bool false))])
 bif (true&&(hokR h11 143 (PV.rI (PV.fld (hvarOf h10 (List.length h7)) 2)) (0:Int))) then
 let h12:List HE:=(List.set h11 (PV.rI (PV.fld (hvarOf h10 (List.length h7)) 2)) (HE.row 143 (List.set (hrowOf h11 (PV.rI (PV.fld (hvarOf h10 (List.length h7)) 2))) ((0:Int)).toNat (PV.rs (List.length h10) ((IntKind.wrap .i64 ((PV.num (PV.fld (hvarOf h10 (List.length h7)) 1))+(1:Int)))).toNat))))
 bif (true&&true&&(hokV h12 160 (List.length h7))) then
 bif (true&&decide ((0:Int)≤(0:Int))&&decide ((0:Int) < ((PV.rN (PV.fld (hvarOf h12 (List.length h7)) 2)):Int))) then
 bif (true&&true&&(hokR h12 143 (PV.rI (PV.fld (hvarOf h12 (List.length h7)) 2)) (0:Int))) then
 let n13:Int:=((PV.rN (List.getD (hrowOf h12 (PV.rI (PV.fld (hvarOf h12 (List.length h7)) 2))) ((0:Int)).toNat PV.nil)):Int)
 w1 h7 n13 0 h12
 else none
 else none
 else none
 else none
 else none
 else none
 else none
 else none
 else none
 else none
 else none
 else none
 else none

theorem f89_e_mem (k:Nat)(c49:Ch_13)(c50:Ch_14)(c103:Ch_10)(retF:PV × Int × (List HE)→R)(p1:PV)(p2:PV)(b3:Bool)(h4:List HE):exec (f89_E k c49 c50 c103) f89_code (endK (f89_E k c49 c50 c103) Try.f89 [1000000000000] f89_un retF) ⟨[.val 28 p1,.val 36 p2,.bool b3,.undef,.undef,.undef,.undef,.undef,.undef,.undef,.undef,.undef,.undef,.undef,.undef,.undef,.undef,.undef,.undef,.undef,.undef,.undef,.undef,.undef,.undef,.undef,.undef,.undef,.undef,.undef,.undef,.undef,.undef,.undef,.undef,.undef,.undef,.undef,.undef,.undef,.undef,.undef,.undef,.undef,.undef,.undef,.undef,.undef,.undef,.undef,.undef,.undef,.undef,.undef,.undef,.undef,.undef,.undef,.undef,.undef,.undef,.undef,.undef,.undef,.undef,.undef,.undef,.undef,.undef,.undef,.undef,.undef,.undef,.undef,.undef,.undef,.undef,.undef,.undef,.undef,.undef,.undef,.undef,.undef,.undef,.undef,.undef,.undef,.undef,.undef,.undef,.undef,.undef],[(1000000000000,.hp h4)]⟩=f89_e c49 c50 c103 (fun y0 y1 y2=>retF (y0,y1,y2)) (fun h7 n13 n22 h23=>f89_w1A k c49 c50 c103 retF b3 h7 n13 n22 h23) p1 p2 b3 h4:=by kernel_rfl

noncomputable def f89_N (k:Nat)(c49:Ch_13)(c50:Ch_14)(c103:Ch_10)(ret0:PV→Int→(List HE)→R)(p1:PV)(p2:PV)(b3:Bool)(h4:List HE):R :=
 f89_e c49 c50 c103 ret0 (fun h7 n13 n22 h23=>f89_w1N k c49 c50 c103 ret0 b3 h7 n13 n22 h23) p1 p2 b3 h4
theorem f89_eq (k:Nat)(c49:Ch_13)(c50:Ch_14)(c103:Ch_10)(retF:PV × Int × (List HE)→R)(p1:PV)(p2:PV)(b3:Bool)(h4:List HE):exec (f89_E k c49 c50 c103) f89_code (endK (f89_E k c49 c50 c103) Try.f89 [1000000000000] f89_un retF) ⟨[.val 28 p1,.val 36 p2,.bool b3,.undef,.undef,.undef,.undef,.undef,.undef,.undef,.undef,.undef,.undef,.undef,.undef,.undef,.undef,.undef,.undef,.undef,.undef,.undef,.undef,.undef,.undef,.undef,.undef,.undef,.undef,.undef,.undef,.undef,.undef,.undef,.undef,.undef,.undef,.undef,.undef,.undef,.undef,.undef,.undef,.undef,.undef,.undef,.undef,.undef,.undef,.undef,.undef,.undef,.undef,.undef,.undef,.undef,.undef,.undef,.undef,.undef,.undef,.undef,.undef,.undef,.undef,.undef,.undef,.undef,.undef,.undef,.undef,.undef,.undef,.undef,.undef,.undef,.undef,.undef,.undef,.undef,.undef,.undef,.undef,.undef,.undef,.undef,.undef,.undef,.undef,.undef,.undef,.undef,.undef],[(1000000000000,.hp h4)]⟩=f89_N k c49 c50 c103 (fun y0 y1 y2=>retF (y0,y1,y2)) p1 p2 b3 h4 :=
 (f89_e_mem k c49 c50 c103 retF p1 p2 b3 h4).trans (by rw [show (fun h7 n13 n22 h23=>f89_w1A k c49 c50 c103 retF b3 h7 n13 n22 h23)=(fun h7 n13 n22 h23=>f89_w1N k c49 c50 c103 (fun y0 y1 y2=>retF (y0,y1,y2)) b3 h7 n13 n22 h23) from funext fun h7=>funext fun n13=>funext fun n22=>funext fun h23=>f89_w1_eq k c49 c50 c103 retF b3 h7 n13 n22 h23];rfl)

noncomputable def G89:Nat→PV→PV→Bool→(List HE)→(PV→Int→(List HE)→R)→R
 | 0,_,_,_,_,_=>none
 | k+1,p1,p2,b3,h4,ret0=>f89_N k (G49 k) (G50 k) (G103 k) ret0 p1 p2 b3 h4
theorem S89:∀ k,Snd Try.prog 89 f89_I f89_O (fun x ret=>G89 k x.1 x.2.1 x.2.2.1 x.2.2.2 (fun y0 y1 y2=>ret (y0,y1,y2)))
 | 0=>snd_none
 | k+1=>snd_step (E:=f89_E k (G49 k) (G50 k) (G103 k)) rfl laidOut noNums (orc_ok (S49 k).o f49_D_ok (orc_ok (S50 k).o f50_D_ok (orc_ok (S103 k).o f103_D_ok orc0_ok))) (f:=89) (fn:=Try.f89) (code:=f89_code) Try.func89 (by kernel_rfl) (drawsOk_of laidOut (orc_ok (S49 k).o f49_D_ok (orc_ok (S50 k).o f50_D_ok (orc_ok (S103 k).o f103_D_ok orc0_ok))) mixed (by kernel_rfl)) f89_un f89_un_ok [1000000000000] (fun _=>rfl)
   (fun x ret=>f89_eq k (G49 k) (G50 k) (G103 k) ret x.1 x.2.1 x.2.2.1 x.2.2.2)

noncomputable def f90_I:PV × (List HE)→List SV × Obs:=fun x=>([.hval 137 x.1],[(1000000000000,.hp x.2)])
noncomputable def f90_D:List SV→Obs→Option (PV × (List HE))
 | [.hval 137 p1],[(1000000000000,.hp h2)]=>some (p1,h2)
 | _,_=>none
theorem f90_D_ok (args:List SV)(B:Obs)(x:PV × (List HE))(h:f90_D args B=some x):f90_I x=(args,B):=by
 unfold f90_D at h
 split at h
 ·injection h with h;subst h;rfl
 ·cases h
noncomputable def f90_O:Bool × (List HE)→Out:=(fun y=>([.bool y.1],[(1000000000000,.hp y.2)]))
noncomputable def f90_un:Out→Option (Bool × (List HE))
 | ([.bool y0],[(1000000000000,.hp y1)])=>some (y0,y1)
 | _=>none
theorem f90_un_ok (o:Out)(y:Bool × (List HE))(h:f90_un o=some y):o=f90_O y:=by
 unfold f90_un at h
 split at h
 ·injection h with h;subst h;rfl
 ·cases h
noncomputable def f90_msk:Nat→Option (List Nat):=fun key=> none
noncomputable def f90_C (c104:Ch_12):Oracle:=orc 104 f104_D f104_O (fun x ret=>c104 x.1 x.2.1 x.2.2.1 x.2.2.2.1 x.2.2.2.2 (fun y0 y1=>ret (y0,y1))) <| orc0
noncomputable def f90_E (k:Nat)(c104:Ch_12):Env:={ P:=Try.prog,nilOwn:=fun d=>false,fldOwn:=fun d i=>false,ownPar:=ownPars,ownRet:=false,hpD:=fun d=>false,hpF:=hpFs,hpNew:=false,mask:=f90_msk,fuel:=k,C:=f90_C c104 }
noncomputable def f90_code:Code:=Try.f90.body.getD .skip
noncomputable def f90_e (c104:Ch_12)(ret0:Bool→(List HE)→R)(p1:PV)(h2:List HE):R :=
 c104 p1 0 0 0 h2 fun b3 h4 =>
 ret0 b3 h4

theorem f90_e_mem (k:Nat)(c104:Ch_12)(retF:Bool × (List HE)→R)(p1:PV)(h2:List HE):exec (f90_E k c104) f90_code (endK (f90_E k c104) Try.f90 [1000000000000] f90_un retF) ⟨[.hval 137 p1,.undef,.undef,.undef,.undef],[(1000000000000,.hp h2)]⟩=f90_e c104 (fun y0 y1=>retF (y0,y1)) p1 h2:=by kernel_rfl

noncomputable def f90_N (k:Nat)(c104:Ch_12)(ret0:Bool→(List HE)→R)(p1:PV)(h2:List HE):R :=
 f90_e c104 ret0 p1 h2
theorem f90_eq (k:Nat)(c104:Ch_12)(retF:Bool × (List HE)→R)(p1:PV)(h2:List HE):exec (f90_E k c104) f90_code (endK (f90_E k c104) Try.f90 [1000000000000] f90_un retF) ⟨[.hval 137 p1,.undef,.undef,.undef,.undef],[(1000000000000,.hp h2)]⟩=f90_N k c104 (fun y0 y1=>retF (y0,y1)) p1 h2 :=
 (f90_e_mem k c104 retF p1 h2)

noncomputable def G90:Nat→PV→(List HE)→(Bool→(List HE)→R)→R
 | 0,_,_,_=>none
 | k+1,p1,h2,ret0=>f90_N k (G104 k) ret0 p1 h2
theorem S90:∀ k,Snd Try.prog 90 f90_I f90_O (fun x ret=>G90 k x.1 x.2 (fun y0 y1=>ret (y0,y1)))
 | 0=>snd_none
 | k+1=>snd_step (E:=f90_E k (G104 k)) rfl laidOut noNums (orc_ok (S104 k).o f104_D_ok orc0_ok) (f:=90) (fn:=Try.f90) (code:=f90_code) Try.func90 (by kernel_rfl) (drawsOk_of laidOut (orc_ok (S104 k).o f104_D_ok orc0_ok) mixed (by kernel_rfl)) f90_un f90_un_ok [1000000000000] (fun _=>rfl)
   (fun x ret=>f90_eq k (G104 k) ret x.1 x.2)

noncomputable def f76_I:PV × Int × (List HE)→List SV × Obs:=fun x=>([.hval 87 x.1,.int .i64 x.2.1],[(1000000000000,.hp x.2.2)])
noncomputable def f76_D:List SV→Obs→Option (PV × Int × (List HE))
 | [.hval 87 p1,.int .i64 n2],[(1000000000000,.hp h3)]=>some (p1,n2,h3)
 | _,_=>none
theorem f76_D_ok (args:List SV)(B:Obs)(x:PV × Int × (List HE))(h:f76_D args B=some x):f76_I x=(args,B):=by
 unfold f76_D at h
 split at h
 ·injection h with h;subst h;rfl
 ·cases h
noncomputable def f76_O:Int × (List HE)→Out:=(fun y=>([.int .u8 y.1],[(1000000000000,.hp y.2)]))
noncomputable def f76_un:Out→Option (Int × (List HE))
 | ([.int .u8 y0],[(1000000000000,.hp y1)])=>some (y0,y1)
 | _=>none
theorem f76_un_ok (o:Out)(y:Int × (List HE))(h:f76_un o=some y):o=f76_O y:=by
 unfold f76_un at h
 split at h
 ·injection h with h;subst h;rfl
 ·cases h
noncomputable def f76_msk:Nat→Option (List Nat):=fun key=> none
noncomputable def f76_C:Oracle:=orc0
noncomputable def f76_E (k:Nat):Env:={ P:=Try.prog,nilOwn:=fun d=>false,fldOwn:=fun d i=>false,ownPar:=ownPars,ownRet:=false,hpD:=fun d=>false,hpF:=hpFs,hpNew:=false,mask:=f76_msk,fuel:=k,C:=f76_C }
noncomputable def f76_code:Code:=Try.f76.body.getD .skip
noncomputable def f76_e (ret0:Int→(List HE)→R)(p1:PV)(n2:Int)(h3:List HE):R :=
 bif (PV.isRp p1) then
 bif (true&&true&&(hokV h3 116 (PV.rI p1))) then
 bif (true&&decide ((0:Int)≤n2)&&decide (n2 < (List.length (PV.els (PV.fld (hvarOf h3 (PV.rI p1)) 1)):Int))) then
 ret0 (PV.num (List.getD (PV.els (PV.fld (hvarOf h3 (PV.rI p1)) 1)) (n2).toNat PV.nil)) h3
 else none
 else none
 else none

theorem f76_e_mem (k:Nat)(retF:Int × (List HE)→R)(p1:PV)(n2:Int)(h3:List HE):exec (f76_E k) f76_code (endK (f76_E k) Try.f76 [1000000000000] f76_un retF) ⟨[.hval 87 p1,.int .i64 n2,.undef,.undef,.undef,.undef,.undef,.undef,.undef,.undef,.undef,.undef],[(1000000000000,.hp h3)]⟩=f76_e (fun y0 y1=>retF (y0,y1)) p1 n2 h3:=by kernel_rfl

noncomputable def f76_N (k:Nat)(ret0:Int→(List HE)→R)(p1:PV)(n2:Int)(h3:List HE):R :=
 f76_e ret0 p1 n2 h3
theorem f76_eq (k:Nat)(retF:Int × (List HE)→R)(p1:PV)(n2:Int)(h3:List HE):exec (f76_E k) f76_code (endK (f76_E k) Try.f76 [1000000000000] f76_un retF) ⟨[.hval 87 p1,.int .i64 n2,.undef,.undef,.undef,.undef,.undef,.undef,.undef,.undef,.undef,.undef],[(1000000000000,.hp h3)]⟩=f76_N k (fun y0 y1=>retF (y0,y1)) p1 n2 h3 :=
 (f76_e_mem k retF p1 n2 h3)

noncomputable def G76:Nat→PV→Int→(List HE)→(Int→(List HE)→R)→R
 | 0,_,_,_,_=>none
 | k+1,p1,n2,h3,ret0=>f76_N k  ret0 p1 n2 h3
theorem S76:∀ k,Snd Try.prog 76 f76_I f76_O (fun x ret=>G76 k x.1 x.2.1 x.2.2 (fun y0 y1=>ret (y0,y1)))
 | 0=>snd_none
 | k+1=>snd_step (E:=f76_E k ) rfl laidOut noNums orc0_ok (f:=76) (fn:=Try.f76) (code:=f76_code) Try.func76 (by kernel_rfl) (drawsOk_of laidOut orc0_ok mixed (by kernel_rfl)) f76_un f76_un_ok [1000000000000] (fun _=>rfl)
   (fun x ret=>f76_eq k  ret x.1 x.2.1 x.2.2)

noncomputable def f105_I:PV × Int × Int × PV × (List HE)→List SV × Obs:=fun x=>([.hval 140 x.1,.int .i64 x.2.1,.int .i64 x.2.2.1,.hval 143 x.2.2.2.1],[(1000000000000,.hp x.2.2.2.2)])
noncomputable def f105_D:List SV→Obs→Option (PV × Int × Int × PV × (List HE))
 | [.hval 140 p1,.int .i64 n2,.int .i64 n3,.hval 143 p4],[(1000000000000,.hp h5)]=>some (p1,n2,n3,p4,h5)
 | _,_=>none
theorem f105_D_ok (args:List SV)(B:Obs)(x:PV × Int × Int × PV × (List HE))(h:f105_D args B=some x):f105_I x=(args,B):=by
 unfold f105_D at h
 split at h
 ·injection h with h;subst h;rfl
 ·cases h
noncomputable def f105_O:Bool × (List HE)→Out:=(fun y=>([.bool y.1],[(1000000000000,.hp y.2)]))
noncomputable def f105_un:Out→Option (Bool × (List HE))
 | ([.bool y0],[(1000000000000,.hp y1)])=>some (y0,y1)
 | _=>none
theorem f105_un_ok (o:Out)(y:Bool × (List HE))(h:f105_un o=some y):o=f105_O y:=by
 unfold f105_un at h
 split at h
 ·injection h with h;subst h;rfl
 ·cases h
noncomputable def f105_msk:Nat→Option (List Nat):=fun key=>bif key==6 then some [0,1,2,3,9] else none
noncomputable def f105_C (c52:Ch_12):Oracle:=orc 52 f52_D f52_O (fun x ret=>c52 x.1 x.2.1 x.2.2.1 x.2.2.2.1 x.2.2.2.2 (fun y0 y1=>ret (y0,y1))) <| orc0
noncomputable def f105_E (k:Nat)(c52:Ch_12):Env:={ P:=Try.prog,nilOwn:=fun d=>false,fldOwn:=fun d i=>false,ownPar:=ownPars,ownRet:=false,hpD:=fun d=>false,hpF:=hpFs,hpNew:=false,mask:=f105_msk,fuel:=k,C:=f105_C c52 }
noncomputable def f105_code:Code:=Try.f105.body.getD .skip
noncomputable def f105_cw1:Code:=subC f105_code [1,0,1,0,0]
noncomputable def f105_hw1_0 (p1:PV)(n2:Int)(n3:Int)(p4:PV)(n8:Int)(h9:List HE):St:=⟨[.hval 140 p1,.int .i64 n2,.int .i64 n3,.hval 143 p4,.dead,.dead,.dead,.dead,.dead,.int .i64 n8,.dead,.dead,.dead,.dead,.dead,.dead,.dead,.dead,.dead,.dead,.dead,.dead,.dead,.dead,.dead,.dead,.dead,.dead,.dead,.dead,.dead,.dead,.dead],[(1000000000000,.hp h9)]⟩
noncomputable def f105_w1A (k:Nat)(c52:Ch_12)(retF:Bool × (List HE)→R)(p1:PV)(n2:Int)(n3:Int)(p4:PV)(n8:Int)(h9:List HE):R:=loopM (f105_E k c52) f105_cw1 (kont (f105_E k c52) f105_code [1,0,1,0] (endK (f105_E k c52) Try.f105 [1000000000000] f105_un retF)) k (f105_hw1_0 p1 n2 n3 p4 n8 h9)
noncomputable def f105_w1b0 (c52:Ch_12)(ret0:Bool→(List HE)→R)(next_w1_0:Int→(List HE)→R)(p1:PV)(n2:Int)(n3:Int)(p4:PV)(n8:Int)(h9:List HE):R :=
 bif (PV.isRp p1) then
 bif (true&&true&&(hokV h9 142 (PV.rI p1))) then
 bif (decide (n8≤(PV.num (PV.fld (hvarOf h9 (PV.rI p1)) 1)))) then
 bif (true&&decide ((0:Int)≤n8)&&decide (n8 < ((PV.rN p4):Int))) then
 bif (true&&true&&(hokR h9 4 (PV.rI p4) n8)) then
 bif ((PV.tt (List.getD (hrowOf h9 (PV.rI p4)) (n8).toNat PV.nil))==true) then
 bif (PV.isRp p1) then
 bif (true&&true&&(hokV h9 142 (PV.rI p1))) then
 c52 (PV.fld (hvarOf h9 (PV.rI p1)) 0) n2 n3 n8 h9 fun b10 h11 =>
 bif b10 then
 ret0 true h11
 else next_w1_0 (IntKind.wrap .i64 (n8+(1:Int))) h11
 else none
 else none
 else next_w1_0 (IntKind.wrap .i64 (n8+(1:Int))) h9
 else none
 else none
 else ret0 false h9
 else none
 else none

theorem f105_w1b0_mem (k:Nat)(c52:Ch_12)(retF:Bool × (List HE)→R)(NX_w1:St→R)(p1:PV)(n2:Int)(n3:Int)(p4:PV)(n8:Int)(h9:List HE):exec (f105_E k c52) f105_cw1 (purgeK (f105_E k c52) f105_cw1 (loopK NX_w1 (kont (f105_E k c52) f105_code [1,0,1,0] (endK (f105_E k c52) Try.f105 [1000000000000] f105_un retF)))) (f105_hw1_0 p1 n2 n3 p4 n8 h9)=f105_w1b0 c52 (fun y0 y1=>retF (y0,y1)) (fun n8 h9=>NX_w1 (f105_hw1_0 p1 n2 n3 p4 n8 h9)) p1 n2 n3 p4 n8 h9:=by kernel_rfl

noncomputable def f105_w1b0N (k:Nat)(c52:Ch_12)(ret0:Bool→(List HE)→R)(next_w1_0:Int→(List HE)→R)(p1:PV)(n2:Int)(n3:Int)(p4:PV)(n8:Int)(h9:List HE):R :=
 f105_w1b0 c52 ret0 next_w1_0 p1 n2 n3 p4 n8 h9
theorem f105_w1b0_eq (k:Nat)(c52:Ch_12)(retF:Bool × (List HE)→R)(NX_w1:St→R)(p1:PV)(n2:Int)(n3:Int)(p4:PV)(n8:Int)(h9:List HE):exec (f105_E k c52) f105_cw1 (purgeK (f105_E k c52) f105_cw1 (loopK NX_w1 (kont (f105_E k c52) f105_code [1,0,1,0] (endK (f105_E k c52) Try.f105 [1000000000000] f105_un retF)))) (f105_hw1_0 p1 n2 n3 p4 n8 h9)=f105_w1b0N k c52 (fun y0 y1=>retF (y0,y1)) (fun n8 h9=>NX_w1 (f105_hw1_0 p1 n2 n3 p4 n8 h9)) p1 n2 n3 p4 n8 h9 :=
 (f105_w1b0_mem k c52 retF NX_w1 p1 n2 n3 p4 n8 h9)

noncomputable def f105_w1B (k:Nat)(c52:Ch_12)(ret0:Bool→(List HE)→R)(p1:PV)(n2:Int)(n3:Int)(p4:PV)(nx:Int × (List HE)→R):Int × (List HE)→R:=(fun s=>f105_w1b0N k c52 ret0 (fun n8 h9=>nx (n8,h9)) p1 n2 n3 p4 s.1 s.2)
noncomputable def f105_w1N (k:Nat)(c52:Ch_12)(ret0:Bool→(List HE)→R)(p1:PV)(n2:Int)(n3:Int)(p4:PV)(n8:Int)(h9:List HE):R:=loopR (f105_w1B k c52 ret0 p1 n2 n3 p4) k (n8,h9)
theorem f105_w1_eq (k:Nat)(c52:Ch_12)(retF:Bool × (List HE)→R)(p1:PV)(n2:Int)(n3:Int)(p4:PV)(n8:Int)(h9:List HE):f105_w1A k c52 retF p1 n2 n3 p4 n8 h9=f105_w1N k c52 (fun y0 y1=>retF (y0,y1)) p1 n2 n3 p4 n8 h9 :=
 Eq.mp (by kernel_rfl) (loop_sim (E:=(f105_E k c52)) (c:=f105_cw1) (K:=(kont (f105_E k c52) f105_code [1,0,1,0] (endK (f105_E k c52) Try.f105 [1000000000000] f105_un retF))) (S:=Int × (List HE)) (fun s=>f105_hw1_0 p1 n2 n3 p4 s.1 s.2) (f105_w1B k c52 (fun y0 y1=>retF (y0,y1)) p1 n2 n3 p4) (fun NX s=>by
  exact Eq.mp (by kernel_rfl) (f105_w1b0_eq k c52 retF NX p1 n2 n3 p4 s.1 s.2)) k (n8,h9))

noncomputable def f105_e (c52:Ch_12)(ret0:Bool→(List HE)→R)(w1:Int→(List HE)→R)(p1:PV)(n2:Int)(n3:Int)(p4:PV)(h5:List HE):R :=
 w1 n3 h5

theorem f105_e_mem (k:Nat)(c52:Ch_12)(retF:Bool × (List HE)→R)(p1:PV)(n2:Int)(n3:Int)(p4:PV)(h5:List HE):exec (f105_E k c52) f105_code (endK (f105_E k c52) Try.f105 [1000000000000] f105_un retF) ⟨[.hval 140 p1,.int .i64 n2,.int .i64 n3,.hval 143 p4,.undef,.undef,.undef,.undef,.undef,.undef,.undef,.undef,.undef,.undef,.undef,.undef,.undef,.undef,.undef,.undef,.undef,.undef,.undef,.undef,.undef,.undef,.undef,.undef,.undef,.undef,.undef,.undef,.undef],[(1000000000000,.hp h5)]⟩=f105_e c52 (fun y0 y1=>retF (y0,y1)) (fun n8 h9=>f105_w1A k c52 retF p1 n2 n3 p4 n8 h9) p1 n2 n3 p4 h5:=by kernel_rfl

noncomputable def f105_N (k:Nat)(c52:Ch_12)(ret0:Bool→(List HE)→R)(p1:PV)(n2:Int)(n3:Int)(p4:PV)(h5:List HE):R :=
 f105_e c52 ret0 (fun n8 h9=>f105_w1N k c52 ret0 p1 n2 n3 p4 n8 h9) p1 n2 n3 p4 h5
theorem f105_eq (k:Nat)(c52:Ch_12)(retF:Bool × (List HE)→R)(p1:PV)(n2:Int)(n3:Int)(p4:PV)(h5:List HE):exec (f105_E k c52) f105_code (endK (f105_E k c52) Try.f105 [1000000000000] f105_un retF) ⟨[.hval 140 p1,.int .i64 n2,.int .i64 n3,.hval 143 p4,.undef,.undef,.undef,.undef,.undef,.undef,.undef,.undef,.undef,.undef,.undef,.undef,.undef,.undef,.undef,.undef,.undef,.undef,.undef,.undef,.undef,.undef,.undef,.undef,.undef,.undef,.undef,.undef,.undef],[(1000000000000,.hp h5)]⟩=f105_N k c52 (fun y0 y1=>retF (y0,y1)) p1 n2 n3 p4 h5 :=
 (f105_e_mem k c52 retF p1 n2 n3 p4 h5).trans (by rw [show (fun n8 h9=>f105_w1A k c52 retF p1 n2 n3 p4 n8 h9)=(fun n8 h9=>f105_w1N k c52 (fun y0 y1=>retF (y0,y1)) p1 n2 n3 p4 n8 h9) from funext fun n8=>funext fun h9=>f105_w1_eq k c52 retF p1 n2 n3 p4 n8 h9];rfl)

noncomputable def G105:Nat→PV→Int→Int→PV→(List HE)→(Bool→(List HE)→R)→R
 | 0,_,_,_,_,_,_=>none
 | k+1,p1,n2,n3,p4,h5,ret0=>f105_N k (G52 k) ret0 p1 n2 n3 p4 h5
theorem S105:∀ k,Snd Try.prog 105 f105_I f105_O (fun x ret=>G105 k x.1 x.2.1 x.2.2.1 x.2.2.2.1 x.2.2.2.2 (fun y0 y1=>ret (y0,y1)))
 | 0=>snd_none
 | k+1=>snd_step (E:=f105_E k (G52 k)) rfl laidOut noNums (orc_ok (S52 k).o f52_D_ok orc0_ok) (f:=105) (fn:=Try.f105) (code:=f105_code) Try.func105 (by kernel_rfl) (drawsOk_of laidOut (orc_ok (S52 k).o f52_D_ok orc0_ok) mixed (by kernel_rfl)) f105_un f105_un_ok [1000000000000] (fun _=>rfl)
   (fun x ret=>f105_eq k (G52 k) ret x.1 x.2.1 x.2.2.1 x.2.2.2.1 x.2.2.2.2)

end Go.Proofs.Ytmdlhnojpcnnbaa
