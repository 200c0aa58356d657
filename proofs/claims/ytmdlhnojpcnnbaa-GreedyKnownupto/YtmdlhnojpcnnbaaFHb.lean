/- Functions of the program as Lean functions, each tied to the program by the kernel: catchpolelaw22.GreedyKnown -/
import Derived.Test.YtmdlhnojpcnnbaaFH
set_option linter.unusedVariables false
set_option maxRecDepth 100000
namespace Go.Proofs.Ytmdlhnojpcnnbaa
open Go Go.X
abbrev Chb_0:=PV→Int→Int→Int→(List HE)→(Bool→(List HE)→R)→R
abbrev Chb_1:=PV→Int→Int→PV→(List HE)→(PV→Int→(List HE)→R)→R
abbrev Chb_2:=PV→Int→Int→PV→(List HE)→(Bool→(List HE)→R)→R
abbrev Chb_3:=PV→Int→PV→(List HE)→(PV→(List HE)→R)→R
abbrev Chb_4:=PV→Int→(List HE)→(Int→(List HE)→R)→R
abbrev Chb_5:=PV→Int→Int→Int→PV→(List HE)→(PV→Int→(List HE)→R)→R
abbrev Chb_6:=PV→PV→(List HE)→(PV→(List HE)→R)→R
abbrev Chb_7:=PV→PV→Bool→(List HE)→(PV→Int→(List HE)→R)→R
abbrev Chb_8:=PV→(List HE)→(Bool→(List HE)→R)→R
abbrev Chb_9:=PV→PV→Bool→(Int→PV→Int→R)→R
abbrev Chb_10:=PV→(List PV)→((List PV)→R)→R
abbrev Chb_11:=(List PV)→((List PV)→R)→R
abbrev Chb_12:=(List Int)→(List PV)→(Int→PV→(List PV)→R)→R
abbrev Chb_13:=PV→(PV→R)→R
abbrev Chb_14:=(List Int)→PV→(List PV)→(Int→PV→(List PV)→R)→R
abbrev Chb_15:=PV→PV→(List PV)→((List PV)→R)→R
abbrev Chb_16:=(List PV)→((List Int)→R)→R
abbrev Chb_17:=PV→((List Int)→R)→R
abbrev Chb_18:=PV→PV→(PV→R)→R
abbrev Chb_19:=PV→PV→(Int→PV→Int→R)→R
abbrev Chb_20:=(Bool→R)→R
abbrev Chb_21:=PV→PV→(PV→Int→R)→R
abbrev Chb_22:=(PV→R)→R
noncomputable def f112_I:PV × Int × PV × (List HE)→List SV × Obs:=fun x=>([.hval 140 x.1,.int .i64 x.2.1,.hval 143 x.2.2.1],[(1000000000000,.hp x.2.2.2)])
noncomputable def f112_D:List SV→Obs→Option (PV × Int × PV × (List HE))
 | [.hval 140 p1,.int .i64 n2,.hval 143 p3],[(1000000000000,.hp h4)]=>some (p1,n2,p3,h4)
 | _,_=>none
theorem f112_D_ok (args:List SV)(B:Obs)(x:PV × Int × PV × (List HE))(h:f112_D args B=some x):f112_I x=(args,B):=by
 unfold f112_D at h
 split at h
 ·injection h with h;subst h;rfl
 ·cases h
noncomputable def f112_O:PV × (List HE)→Out:=(fun y=>([.hval 143 y.1],[(1000000000000,.hp y.2)]))
noncomputable def f112_un:Out→Option (PV × (List HE))
 | ([.hval 143 y0],[(1000000000000,.hp y1)])=>some (y0,y1)
 | _=>none
theorem f112_un_ok (o:Out)(y:PV × (List HE))(h:f112_un o=some y):o=f112_O y:=by
 unfold f112_un at h
 split at h
 ·injection h with h;subst h;rfl
 ·cases h
noncomputable def f112_msk:Nat→Option (List Nat):=fun key=>bif key==12 then some [0,1,7,8] else bif key==21 then some [0,1,7,8,9] else none
noncomputable def f112_C (c52:Chb_0):Oracle:=orc 52 f52_D f52_O (fun x ret=>c52 x.1 x.2.1 x.2.2.1 x.2.2.2.1 x.2.2.2.2 (fun y0 y1=>ret (y0,y1))) <| orc0
noncomputable def f112_E (k:Nat)(c52:Chb_0):Env:={ P:=Try.prog,nilOwn:=fun d=>false,fldOwn:=fun d i=>false,ownPar:=ownPars,ownRet:=false,hpD:=fun d=>d==15,hpF:=hpFs,hpNew:=false,mask:=f112_msk,fuel:=k,C:=f112_C c52 }
noncomputable def f112_code:Code:=Try.f112.body.getD .skip
noncomputable def f112_cw1:Code:=subC f112_code [1,1,1,0,1,0,0]
noncomputable def f112_hw1_0 (p1:PV)(n2:Int)(h4:List HE)(n23:Int)(h24:List HE):St:=⟨[.hval 140 p1,.int .i64 n2,.dead,.dead,.dead,.dead,.dead,.hval 143 (PV.rs (List.length h4) ((IntKind.wrap .i64 ((PV.num (PV.fld (hvarOf h4 (PV.rI p1)) 1))+(1:Int)))).toNat),.int .i64 n23,.dead,.dead,.dead,.dead,.dead,.dead,.dead,.dead,.dead,.dead,.dead,.dead,.dead,.dead,.dead,.dead,.dead,.dead,.dead,.dead,.dead,.dead,.dead,.dead,.dead,.dead,.dead,.dead,.dead,.dead,.dead,.dead,.dead,.dead,.dead,.dead,.dead,.dead,.dead,.dead,.dead,.dead,.dead,.dead,.dead,.dead,.dead,.dead,.dead,.dead,.dead,.dead,.dead],[(1000000000000,.hp h24)]⟩
noncomputable def f112_w1A (k:Nat)(c52:Chb_0)(retF:PV × (List HE)→R)(p1:PV)(n2:Int)(h4:List HE)(n23:Int)(h24:List HE):R:=loopM (f112_E k c52) f112_cw1 (kont (f112_E k c52) f112_code [1,1,1,0,1,0] (endK (f112_E k c52) Try.f112 [1000000000000] f112_un retF)) k (f112_hw1_0 p1 n2 h4 n23 h24)
noncomputable def f112_cw3:Code:=subC f112_cw1 [1,0,0,1,0,0]
noncomputable def f112_hw3_0 (p1:PV)(n2:Int)(h4:List HE)(n23:Int)(n30:Int)(h31:List HE):St:=⟨[.hval 140 p1,.int .i64 n2,.dead,.dead,.dead,.dead,.dead,.hval 143 (PV.rs (List.length h4) ((IntKind.wrap .i64 ((PV.num (PV.fld (hvarOf h4 (PV.rI p1)) 1))+(1:Int)))).toNat),.int .i64 n23,.int .i64 n30,.dead,.dead,.dead,.dead,.dead,.dead,.dead,.dead,.dead,.dead,.dead,.dead,.dead,.dead,.dead,.dead,.dead,.dead,.dead,.dead,.dead,.dead,.dead,.dead,.dead,.dead,.dead,.dead,.dead,.dead,.dead,.dead,.dead,.dead,.dead,.dead,.dead,.dead,.dead,.dead,.dead,.dead,.dead,.dead,.dead,.dead,.dead,.dead,.dead,.dead,.dead,.dead],[(1000000000000,.hp h31)]⟩
noncomputable def f112_w3A (k:Nat)(c52:Chb_0)(retF:PV × (List HE)→R)(NX_w1:St→R)(p1:PV)(n2:Int)(h4:List HE)(n23:Int)(n30:Int)(h31:List HE):R:=loopM (f112_E k c52) f112_cw3 (kont (f112_E k c52) f112_cw1 [1,0,0,1,0] (purgeK (f112_E k c52) f112_cw1 (loopK NX_w1 (kont (f112_E k c52) f112_code [1,1,1,0,1,0] (endK (f112_E k c52) Try.f112 [1000000000000] f112_un retF))))) k (f112_hw3_0 p1 n2 h4 n23 n30 h31)
noncomputable def f112_w3b0 (c52:Chb_0)(ret0:PV→(List HE)→R)(next_w1_0:Int→(List HE)→R)(next_w3_0:Int→(List HE)→R)(p1:PV)(n2:Int)(h4:List HE)(n23:Int)(n30:Int)(h31:List HE):R :=
 bif (PV.isRp p1) then
 bif (true&&true&&(hokV h31 142 (PV.rI p1))) then
 bif ((decide (n30≤(PV.num (PV.fld (hvarOf h31 (PV.rI p1)) 1))))==true) then
 bif (true&&decide ((0:Int)≤n23)&&decide (n23 < (((IntKind.wrap .i64 ((PV.num (PV.fld (hvarOf h4 (PV.rI p1)) 1))+(1:Int)))).toNat:Int))) then
 bif (true&&true&&(hokR h31 4 (List.length h4) n23)) then
 bif (!(PV.tt (List.getD (hrowOf h31 (List.length h4)) (n23).toNat PV.nil))) then
 bif (true&&decide ((0:Int)≤n30)&&decide (n30 < (((IntKind.wrap .i64 ((PV.num (PV.fld (hvarOf h4 (PV.rI p1)) 1))+(1:Int)))).toNat:Int))) then
 bif (true&&true&&(hokR h31 4 (List.length h4) n30)) then
 bif ((PV.tt (List.getD (hrowOf h31 (List.length h4)) (n30).toNat PV.nil))==true) then
 bif (PV.isRp p1) then
 bif (true&&true&&(hokV h31 142 (PV.rI p1))) then
 c52 (PV.fld (hvarOf h31 (PV.rI p1)) 0) n2 n23 n30 h31 fun b32 h33 =>
 bif (true&&decide ((0:Int)≤n23)&&decide (n23 < (((IntKind.wrap .i64 ((PV.num (PV.fld (hvarOf h4 (PV.rI p1)) 1))+(1:Int)))).toNat:Int))) then
 bif (true&&(hokR h33 4 (List.length h4) n23)) then
 let h34:List HE:=(List.set h33 (List.length h4) (HE.row 4 (List.set (hrowOf h33 (List.length h4)) (n23).toNat (PV.bool b32))))
 next_w3_0 (IntKind.wrap .i64 (n30+(1:Int))) h34
 else none
 else none
 else none
 else none
 else bif (true&&decide ((0:Int)≤n23)&&decide (n23 < (((IntKind.wrap .i64 ((PV.num (PV.fld (hvarOf h4 (PV.rI p1)) 1))+(1:Int)))).toNat:Int))) then
 bif (true&&(hokR h31 4 (List.length h4) n23)) then
 let h35:List HE:=(List.set h31 (List.length h4) (HE.row 4 (List.set (hrowOf h31 (List.length h4)) (n23).toNat (PV.bool false))))
 next_w3_0 (IntKind.wrap .i64 (n30+(1:Int))) h35
 else none
 else none
 else none
 else none
 else next_w1_0 (IntKind.wrap .i64 (n23 - (1:Int))) h31
 else none
 else none
 else next_w1_0 (IntKind.wrap .i64 (n23 - (1:Int))) h31
 else none
 else none

theorem f112_w3b0_mem (k:Nat)(c52:Chb_0)(retF:PV × (List HE)→R)(NX_w1:St→R)(NX_w3:St→R)(p1:PV)(n2:Int)(h4:List HE)(n23:Int)(n30:Int)(h31:List HE):exec (f112_E k c52) f112_cw3 (purgeK (f112_E k c52) f112_cw3 (loopK NX_w3 (kont (f112_E k c52) f112_cw1 [1,0,0,1,0] (purgeK (f112_E k c52) f112_cw1 (loopK NX_w1 (kont (f112_E k c52) f112_code [1,1,1,0,1,0] (endK (f112_E k c52) Try.f112 [1000000000000] f112_un retF))))))) (f112_hw3_0 p1 n2 h4 n23 n30 h31)=f112_w3b0 c52 (fun y0 y1=>retF (y0,y1)) (fun n23 h24=>NX_w1 (f112_hw1_0 p1 n2 h4 n23 h24)) (fun n30 h31=>NX_w3 (f112_hw3_0 p1 n2 h4 n23 n30 h31)) p1 n2 h4 n23 n30 h31:=by kernel_rfl

noncomputable def f112_w3b0N (k:Nat)(c52:Chb_0)(ret0:PV→(List HE)→R)(next_w1_0:Int→(List HE)→R)(next_w3_0:Int→(List HE)→R)(p1:PV)(n2:Int)(h4:List HE)(n23:Int)(n30:Int)(h31:List HE):R :=
 f112_w3b0 c52 ret0 next_w1_0 next_w3_0 p1 n2 h4 n23 n30 h31
theorem f112_w3b0_eq (k:Nat)(c52:Chb_0)(retF:PV × (List HE)→R)(NX_w1:St→R)(NX_w3:St→R)(p1:PV)(n2:Int)(h4:List HE)(n23:Int)(n30:Int)(h31:List HE):exec (f112_E k c52) f112_cw3 (purgeK (f112_E k c52) f112_cw3 (loopK NX_w3 (kont (f112_E k c52) f112_cw1 [1,0,0,1,0] (purgeK (f112_E k c52) f112_cw1 (loopK NX_w1 (kont (f112_E k c52) f112_code [1,1,1,0,1,0] (endK (f112_E k c52) Try.f112 [1000000000000] f112_un retF))))))) (f112_hw3_0 p1 n2 h4 n23 n30 h31)=f112_w3b0N k c52 (fun y0 y1=>retF (y0,y1)) (fun n23 h24=>NX_w1 (f112_hw1_0 p1 n2 h4 n23 h24)) (fun n30 h31=>NX_w3 (f112_hw3_0 p1 n2 h4 n23 n30 h31)) p1 n2 h4 n23 n30 h31 :=
 (f112_w3b0_mem k c52 retF NX_w1 NX_w3 p1 n2 h4 n23 n30 h31)

noncomputable def f112_w3B (k:Nat)(c52:Chb_0)(ret0:PV→(List HE)→R)(next_w1_0:Int→(List HE)→R)(p1:PV)(n2:Int)(h4:List HE)(n23:Int)(nx:Int × (List HE)→R):Int × (List HE)→R:=(fun s=>f112_w3b0N k c52 ret0 next_w1_0 (fun n30 h31=>nx (n30,h31)) p1 n2 h4 n23 s.1 s.2)
noncomputable def f112_w3N (k:Nat)(c52:Chb_0)(ret0:PV→(List HE)→R)(next_w1_0:Int→(List HE)→R)(p1:PV)(n2:Int)(h4:List HE)(n23:Int)(n30:Int)(h31:List HE):R:=loopR (f112_w3B k c52 ret0 next_w1_0 p1 n2 h4 n23) k (n30,h31)
theorem f112_w3_eq (k:Nat)(c52:Chb_0)(retF:PV × (List HE)→R)(NX_w1:St→R)(p1:PV)(n2:Int)(h4:List HE)(n23:Int)(n30:Int)(h31:List HE):f112_w3A k c52 retF NX_w1 p1 n2 h4 n23 n30 h31=f112_w3N k c52 (fun y0 y1=>retF (y0,y1)) (fun n23 h24=>NX_w1 (f112_hw1_0 p1 n2 h4 n23 h24)) p1 n2 h4 n23 n30 h31 :=
 Eq.mp (by kernel_rfl) (loop_sim (E:=(f112_E k c52)) (c:=f112_cw3) (K:=(kont (f112_E k c52) f112_cw1 [1,0,0,1,0] (purgeK (f112_E k c52) f112_cw1 (loopK NX_w1 (kont (f112_E k c52) f112_code [1,1,1,0,1,0] (endK (f112_E k c52) Try.f112 [1000000000000] f112_un retF)))))) (S:=Int × (List HE)) (fun s=>f112_hw3_0 p1 n2 h4 n23 s.1 s.2) (f112_w3B k c52 (fun y0 y1=>retF (y0,y1)) (fun n23 h24=>NX_w1 (f112_hw1_0 p1 n2 h4 n23 h24)) p1 n2 h4 n23) (fun NX s=>by
  exact Eq.mp (by kernel_rfl) (f112_w3b0_eq k c52 retF NX_w1 NX p1 n2 h4 n23 s.1 s.2)) k (n30,h31))

noncomputable def f112_w1b0 (c52:Chb_0)(ret0:PV→(List HE)→R)(w3:Int→(List HE)→R)(next_w1_0:Int→(List HE)→R)(p1:PV)(n2:Int)(h4:List HE)(n23:Int)(h24:List HE):R :=
 bif (decide ((0:Int)≤n23)) then
 w3 (IntKind.wrap .i64 (n23+(1:Int))) h24
 else ret0 (PV.rs (List.length h4) ((IntKind.wrap .i64 ((PV.num (PV.fld (hvarOf h4 (PV.rI p1)) 1))+(1:Int)))).toNat) h24

theorem f112_w1b0_mem (k:Nat)(c52:Chb_0)(retF:PV × (List HE)→R)(NX_w1:St→R)(p1:PV)(n2:Int)(h4:List HE)(n23:Int)(h24:List HE):exec (f112_E k c52) f112_cw1 (purgeK (f112_E k c52) f112_cw1 (loopK NX_w1 (kont (f112_E k c52) f112_code [1,1,1,0,1,0] (endK (f112_E k c52) Try.f112 [1000000000000] f112_un retF)))) (f112_hw1_0 p1 n2 h4 n23 h24)=f112_w1b0 c52 (fun y0 y1=>retF (y0,y1)) (fun n30 h31=>f112_w3A k c52 retF NX_w1 p1 n2 h4 n23 n30 h31) (fun n23 h24=>NX_w1 (f112_hw1_0 p1 n2 h4 n23 h24)) p1 n2 h4 n23 h24:=by kernel_rfl

noncomputable def f112_w1b0N (k:Nat)(c52:Chb_0)(ret0:PV→(List HE)→R)(next_w1_0:Int→(List HE)→R)(p1:PV)(n2:Int)(h4:List HE)(n23:Int)(h24:List HE):R :=
 f112_w1b0 c52 ret0 (fun n30 h31=>f112_w3N k c52 ret0 next_w1_0 p1 n2 h4 n23 n30 h31) next_w1_0 p1 n2 h4 n23 h24
theorem f112_w1b0_eq (k:Nat)(c52:Chb_0)(retF:PV × (List HE)→R)(NX_w1:St→R)(p1:PV)(n2:Int)(h4:List HE)(n23:Int)(h24:List HE):exec (f112_E k c52) f112_cw1 (purgeK (f112_E k c52) f112_cw1 (loopK NX_w1 (kont (f112_E k c52) f112_code [1,1,1,0,1,0] (endK (f112_E k c52) Try.f112 [1000000000000] f112_un retF)))) (f112_hw1_0 p1 n2 h4 n23 h24)=f112_w1b0N k c52 (fun y0 y1=>retF (y0,y1)) (fun n23 h24=>NX_w1 (f112_hw1_0 p1 n2 h4 n23 h24)) p1 n2 h4 n23 h24 :=
 (f112_w1b0_mem k c52 retF NX_w1 p1 n2 h4 n23 h24).trans (by rw [show (fun n30 h31=>f112_w3A k c52 retF NX_w1 p1 n2 h4 n23 n30 h31)=(fun n30 h31=>f112_w3N k c52 (fun y0 y1=>retF (y0,y1)) (fun n23 h24=>NX_w1 (f112_hw1_0 p1 n2 h4 n23 h24)) p1 n2 h4 n23 n30 h31) from funext fun n30=>funext fun h31=>f112_w3_eq k c52 retF NX_w1 p1 n2 h4 n23 n30 h31];rfl)

noncomputable def f112_w1B (k:Nat)(c52:Chb_0)(ret0:PV→(List HE)→R)(p1:PV)(n2:Int)(h4:List HE)(nx:Int × (List HE)→R):Int × (List HE)→R:=(fun s=>f112_w1b0N k c52 ret0 (fun n23 h24=>nx (n23,h24)) p1 n2 h4 s.1 s.2)
noncomputable def f112_w1N (k:Nat)(c52:Chb_0)(ret0:PV→(List HE)→R)(p1:PV)(n2:Int)(h4:List HE)(n23:Int)(h24:List HE):R:=loopR (f112_w1B k c52 ret0 p1 n2 h4) k (n23,h24)
theorem f112_w1_eq (k:Nat)(c52:Chb_0)(retF:PV × (List HE)→R)(p1:PV)(n2:Int)(h4:List HE)(n23:Int)(h24:List HE):f112_w1A k c52 retF p1 n2 h4 n23 h24=f112_w1N k c52 (fun y0 y1=>retF (y0,y1)) p1 n2 h4 n23 h24 :=
 Eq.mp (by kernel_rfl) (loop_sim (E:=(f112_E k c52)) (c:=f112_cw1) (K:=(kont (f112_E k c52) f112_code [1,1,1,0,1,0] (endK (f112_E k c52) Try.f112 [1000000000000] f112_un retF))) (S:=Int × (List HE)) (fun s=>f112_hw1_0 p1 n2 h4 s.1 s.2) (f112_w1B k c52 (fun y0 y1=>retF (y0,y1)) p1 n2 h4) (fun NX s=>by
  exact Eq.mp (by kernel_rfl) (f112_w1b0_eq k c52 retF NX p1 n2 h4 s.1 s.2)) k (n23,h24))

noncomputable def f112_e (c52:Chb_0)(ret0:PV→(List HE)→R)(w1:Int→(List HE)→R)(p1:PV)(n2:Int)(p3:PV)(h4:List HE):R :=
 bif (PV.isRp p1) then
 bif (true&&true&&(hokV h4 142 (PV.rI p1))) then
 bif (true&&(true&&decide ((0:Int)≤(IntKind.wrap .i64 ((PV.num (PV.fld (hvarOf h4 (PV.rI p1)) 1))+(1:Int))))&&decide ((IntKind.wrap .i64 ((PV.num (PV.fld (hvarOf h4 (PV.rI p1)) 1))+(1:Int)))=(IntKind.wrap .i64 ((PV.num (PV.fld (hvarOf h4 (PV.rI p1)) 1))+(1:Int))))&&roomy ((IntKind.wrap .i64 ((PV.num (PV.fld (hvarOf h4 (PV.rI p1)) 1))+(1:Int)))).toNat 1)) then
 let h5:List HE:=(h4++[HE.row 4 (List.replicate ((IntKind.wrap .i64 ((PV.num (PV.fld (hvarOf h4 (PV.rI p1)) 1))+(1:Int)))).toNat (PV.bool false))])
 bif (hokS h5 4 (PV.rs (List.length h4) ((IntKind.wrap .i64 ((PV.num (PV.fld (hvarOf h4 (PV.rI p1)) 1))+(1:Int)))).toNat)&&hokS h5 4 p3&&(true&&(PV.isRs p3))&&true&&true&&true&&true&&true) then
 let h6:List HE:=(List.set h5 (List.length h4) (HE.row 4 (List.take ((IntKind.wrap .i64 ((PV.num (PV.fld (hvarOf h4 (PV.rI p1)) 1))+(1:Int)))).toNat (hels h5 p3)++List.drop (PV.rN p3) (hels h5 (PV.rs (List.length h4) ((IntKind.wrap .i64 ((PV.num (PV.fld (hvarOf h4 (PV.rI p1)) 1))+(1:Int)))).toNat)))))
 bif (PV.isRp p1) then
 bif (true&&true&&(hokV h6 142 (PV.rI p1))) then
 w1 (PV.num (PV.fld (hvarOf h6 (PV.rI p1)) 1)) h6
 else none
 else none
 else none
 else none
 else none
 else none

theorem f112_e_mem (k:Nat)(c52:Chb_0)(retF:PV × (List HE)→R)(p1:PV)(n2:Int)(p3:PV)(h4:List HE):exec (f112_E k c52) f112_code (endK (f112_E k c52) Try.f112 [1000000000000] f112_un retF) ⟨[.hval 140 p1,.int .i64 n2,.hval 143 p3,.undef,.undef,.undef,.undef,.undef,.undef,.undef,.undef,.undef,.undef,.undef,.undef,.undef,.undef,.undef,.undef,.undef,.undef,.undef,.undef,.undef,.undef,.undef,.undef,.undef,.undef,.undef,.undef,.undef,.undef,.undef,.undef,.undef,.undef,.undef,.undef,.undef,.undef,.undef,.undef,.undef,.undef,.undef,.undef,.undef,.undef,.undef,.undef,.undef,.undef,.undef,.undef,.undef,.undef,.undef,.undef,.undef,.undef,.undef],[(1000000000000,.hp h4)]⟩=f112_e c52 (fun y0 y1=>retF (y0,y1)) (fun n23 h24=>f112_w1A k c52 retF p1 n2 h4 n23 h24) p1 n2 p3 h4:=by kernel_rfl

noncomputable def f112_N (k:Nat)(c52:Chb_0)(ret0:PV→(List HE)→R)(p1:PV)(n2:Int)(p3:PV)(h4:List HE):R :=
 f112_e c52 ret0 (fun n23 h24=>f112_w1N k c52 ret0 p1 n2 h4 n23 h24) p1 n2 p3 h4
theorem f112_eq (k:Nat)(c52:Chb_0)(retF:PV × (List HE)→R)(p1:PV)(n2:Int)(p3:PV)(h4:List HE):exec (f112_E k c52) f112_code (endK (f112_E k c52) Try.f112 [1000000000000] f112_un retF) ⟨[.hval 140 p1,.int .i64 n2,.hval 143 p3,.undef,.undef,.undef,.undef,.undef,.undef,.undef,.undef,.undef,.undef,.undef,.undef,.undef,.undef,.undef,.undef,.undef,.undef,.undef,.undef,.undef,.undef,.undef,.undef,.undef,.undef,.undef,.undef,.undef,.undef,.undef,.undef,.undef,.undef,.undef,.undef,.undef,.undef,.undef,.undef,.undef,.undef,.undef,.undef,.undef,.undef,.undef,.undef,.undef,.undef,.undef,.undef,.undef,.undef,.undef,.undef,.undef,.undef,.undef],[(1000000000000,.hp h4)]⟩=f112_N k c52 (fun y0 y1=>retF (y0,y1)) p1 n2 p3 h4 :=
 (f112_e_mem k c52 retF p1 n2 p3 h4).trans (by rw [show (fun n23 h24=>f112_w1A k c52 retF p1 n2 h4 n23 h24)=(fun n23 h24=>f112_w1N k c52 (fun y0 y1=>retF (y0,y1)) p1 n2 h4 n23 h24) from funext fun n23=>funext fun h24=>f112_w1_eq k c52 retF p1 n2 h4 n23 h24];rfl)

noncomputable def G112:Nat→PV→Int→PV→(List HE)→(PV→(List HE)→R)→R
 | 0,_,_,_,_,_=>none
 | k+1,p1,n2,p3,h4,ret0=>f112_N k (G52 k) ret0 p1 n2 p3 h4
theorem S112:∀ k,Snd Try.prog 112 f112_I f112_O (fun x ret=>G112 k x.1 x.2.1 x.2.2.1 x.2.2.2 (fun y0 y1=>ret (y0,y1)))
 | 0=>snd_none
 | k+1=>snd_step (E:=f112_E k (G52 k)) rfl laidOut noNums (orc_ok (S52 k).o f52_D_ok orc0_ok) (f:=112) (fn:=Try.f112) (code:=f112_code) Try.func112 (by kernel_rfl) (drawsOk_of laidOut (orc_ok (S52 k).o f52_D_ok orc0_ok) mixed (by kernel_rfl)) f112_un f112_un_ok [1000000000000] (fun _=>rfl)
   (fun x ret=>f112_eq k (G52 k) ret x.1 x.2.1 x.2.2.1 x.2.2.2)

noncomputable def f107_I:PV × Int × Int × PV × (List HE)→List SV × Obs:=fun x=>([.hval 140 x.1,.int .i64 x.2.1,.int .i64 x.2.2.1,.hval 143 x.2.2.2.1],[(1000000000000,.hp x.2.2.2.2)])
noncomputable def f107_D:List SV→Obs→Option (PV × Int × Int × PV × (List HE))
 | [.hval 140 p1,.int .i64 n2,.int .i64 n3,.hval 143 p4],[(1000000000000,.hp h5)]=>some (p1,n2,n3,p4,h5)
 | _,_=>none
theorem f107_D_ok (args:List SV)(B:Obs)(x:PV × Int × Int × PV × (List HE))(h:f107_D args B=some x):f107_I x=(args,B):=by
 unfold f107_D at h
 split at h
 ·injection h with h;subst h;rfl
 ·cases h
noncomputable def f107_O:PV × Int × (List HE)→Out:=(fun y=>([.val 39 y.1,.int .i64 y.2.1],[(1000000000000,.hp y.2.2)]))
noncomputable def f107_un:Out→Option (PV × Int × (List HE))
 | ([.val 39 y0,.int .i64 y1],[(1000000000000,.hp y2)])=>some (y0,y1,y2)
 | _=>none
theorem f107_un_ok (o:Out)(y:PV × Int × (List HE))(h:f107_un o=some y):o=f107_O y:=by
 unfold f107_un at h
 split at h
 ·injection h with h;subst h;rfl
 ·cases h
noncomputable def f106_I:PV × Int × Int × Int × PV × (List HE)→List SV × Obs:=fun x=>([.hval 140 x.1,.int .i64 x.2.1,.int .i64 x.2.2.1,.int .i64 x.2.2.2.1,.hval 143 x.2.2.2.2.1],[(1000000000000,.hp x.2.2.2.2.2)])
noncomputable def f106_D:List SV→Obs→Option (PV × Int × Int × Int × PV × (List HE))
 | [.hval 140 p1,.int .i64 n2,.int .i64 n3,.int .i64 n4,.hval 143 p5],[(1000000000000,.hp h6)]=>some (p1,n2,n3,n4,p5,h6)
 | _,_=>none
theorem f106_D_ok (args:List SV)(B:Obs)(x:PV × Int × Int × Int × PV × (List HE))(h:f106_D args B=some x):f106_I x=(args,B):=by
 unfold f106_D at h
 split at h
 ·injection h with h;subst h;rfl
 ·cases h
noncomputable def f106_O:PV × Int × (List HE)→Out:=(fun y=>([.val 39 y.1,.int .i64 y.2.1],[(1000000000000,.hp y.2.2)]))
noncomputable def f106_un:Out→Option (PV × Int × (List HE))
 | ([.val 39 y0,.int .i64 y1],[(1000000000000,.hp y2)])=>some (y0,y1,y2)
 | _=>none
theorem f106_un_ok (o:Out)(y:PV × Int × (List HE))(h:f106_un o=some y):o=f106_O y:=by
 unfold f106_un at h
 split at h
 ·injection h with h;subst h;rfl
 ·cases h
noncomputable def f91_I:PV × Int × Int × PV × (List HE)→List SV × Obs:=fun x=>([.hval 140 x.1,.int .i64 x.2.1,.int .i64 x.2.2.1,.hval 143 x.2.2.2.1],[(1000000000000,.hp x.2.2.2.2)])
noncomputable def f91_D:List SV→Obs→Option (PV × Int × Int × PV × (List HE))
 | [.hval 140 p1,.int .i64 n2,.int .i64 n3,.hval 143 p4],[(1000000000000,.hp h5)]=>some (p1,n2,n3,p4,h5)
 | _,_=>none
theorem f91_D_ok (args:List SV)(B:Obs)(x:PV × Int × Int × PV × (List HE))(h:f91_D args B=some x):f91_I x=(args,B):=by
 unfold f91_D at h
 split at h
 ·injection h with h;subst h;rfl
 ·cases h
noncomputable def f91_O:PV × Int × (List HE)→Out:=(fun y=>([.val 39 y.1,.int .i64 y.2.1],[(1000000000000,.hp y.2.2)]))
noncomputable def f91_un:Out→Option (PV × Int × (List HE))
 | ([.val 39 y0,.int .i64 y1],[(1000000000000,.hp y2)])=>some (y0,y1,y2)
 | _=>none
theorem f91_un_ok (o:Out)(y:PV × Int × (List HE))(h:f91_un o=some y):o=f91_O y:=by
 unfold f91_un at h
 split at h
 ·injection h with h;subst h;rfl
 ·cases h
noncomputable def f107_msk:Nat→Option (List Nat):=fun key=>bif key==9 then some [0,1,2,8,10,11] else none
noncomputable def f107_C (c91:Chb_1)(c105:Chb_2)(c112:Chb_3):Oracle:=orc 91 f91_D f91_O (fun x ret=>c91 x.1 x.2.1 x.2.2.1 x.2.2.2.1 x.2.2.2.2 (fun y0 y1 y2=>ret (y0,y1,y2))) <| orc 105 f105_D f105_O (fun x ret=>c105 x.1 x.2.1 x.2.2.1 x.2.2.2.1 x.2.2.2.2 (fun y0 y1=>ret (y0,y1))) <| orc 112 f112_D f112_O (fun x ret=>c112 x.1 x.2.1 x.2.2.1 x.2.2.2 (fun y0 y1=>ret (y0,y1))) <| orc0
noncomputable def f107_E (k:Nat)(c91:Chb_1)(c105:Chb_2)(c112:Chb_3):Env:={ P:=Try.prog,nilOwn:=fun d=>false,fldOwn:=fun d i=>(d==14&&i==2),ownPar:=ownPars,ownRet:=false,hpD:=fun d=>d==24,hpF:=hpFs,hpNew:=false,mask:=f107_msk,fuel:=k,C:=f107_C c91 c105 c112 }
noncomputable def f107_code:Code:=Try.f107.body.getD .skip
noncomputable def f107_cw1:Code:=subC f107_code [1,1,1,0,0]
noncomputable def f107_hw1_0 (p1:PV)(n2:Int)(n3:Int)(p6:PV)(h7:List HE):St:=⟨[.hval 140 p1,.int .i64 n2,.int .i64 n3,.dead,.dead,.dead,.dead,.dead,.ptr 8 [],.dead,.ptr 10 [],.hval 143 p6,.dead,.dead,.dead,.dead,.dead,.dead,.dead,.dead,.dead,.dead,.dead,.dead,.dead,.dead,.dead,.dead,.dead,.dead,.dead,.dead,.dead,.dead,.dead,.dead,.dead,.dead,.dead,.dead,.dead,.dead,.dead,.dead,.dead,.dead,.dead,.dead,.dead,.dead,.dead,.dead,.dead,.dead,.dead,.dead],[(8,.box 39 (.val 39 (PV.agg [(PV.int 0),(PV.int 0),(PV.list [])]))),(10,.box 39 (.agg 39 [.int .i64 6,.int .u8 0,.nils])),(1000000000000,.hp h7)]⟩
noncomputable def f107_hw1_1 (p1:PV)(n2:Int)(p6:PV)(n22:Int)(l23:List PV)(h24:List HE):St:=⟨[.hval 140 p1,.int .i64 n2,.int .i64 n22,.dead,.dead,.dead,.dead,.dead,.ptr 8 [],.dead,.ptr 10 [],.hval 143 p6,.dead,.dead,.dead,.dead,.dead,.dead,.dead,.dead,.dead,.dead,.dead,.dead,.dead,.dead,.dead,.dead,.dead,.dead,.dead,.dead,.dead,.dead,.dead,.dead,.dead,.dead,.dead,.dead,.dead,.dead,.dead,.dead,.dead,.dead,.dead,.dead,.dead,.dead,.dead,.dead,.dead,.dead,.dead,.dead],[(8,.box 39 (.val 39 (PV.agg [(PV.int 0),(PV.int 0),(PV.list [])]))),(10,.box 39 (.agg 39 [.int .i64 6,.int .u8 0,.own 37 54])),(54,.row 39 l23),(1000000000000,.hp h24)]⟩
noncomputable def f107_w1A (k:Nat)(c91:Chb_1)(c105:Chb_2)(c112:Chb_3)(retF:PV × Int × (List HE)→R)(p1:PV)(n2:Int)(n3:Int)(p6:PV)(h7:List HE):R:=loopM (f107_E k c91 c105 c112) f107_cw1 (kont (f107_E k c91 c105 c112) f107_code [1,1,1,0] (endK (f107_E k c91 c105 c112) Try.f107 [1000000000000] f107_un retF)) k (f107_hw1_0 p1 n2 n3 p6 h7)
noncomputable def f107_w1b0 (c91:Chb_1)(c105:Chb_2)(c112:Chb_3)(ret0:PV→Int→(List HE)→R)(next_w1_0:Unit→R)(next_w1_1:Int→(List PV)→(List HE)→R)(p1:PV)(n2:Int)(n3:Int)(p6:PV)(h7:List HE):R :=
 bif (PV.isRp p1) then
 bif (true&&true&&(hokV h7 142 (PV.rI p1))) then
 bif (true&&(true&&decide ((0:Int)≤(IntKind.wrap .i64 ((PV.num (PV.fld (hvarOf h7 (PV.rI p1)) 1))+(1:Int))))&&decide ((IntKind.wrap .i64 ((PV.num (PV.fld (hvarOf h7 (PV.rI p1)) 1))+(1:Int)))=(IntKind.wrap .i64 ((PV.num (PV.fld (hvarOf h7 (PV.rI p1)) 1))+(1:Int))))&&roomy ((IntKind.wrap .i64 ((PV.num (PV.fld (hvarOf h7 (PV.rI p1)) 1))+(1:Int)))).toNat 1)) then
 let h15:List HE:=(h7++[HE.row 4 (List.replicate ((IntKind.wrap .i64 ((PV.num (PV.fld (hvarOf h7 (PV.rI p1)) 1))+(1:Int)))).toNat (PV.bool false))])
 bif (true&&true&&true&&true&&true&&true) then
 bif (decide ((0:Int)≤(IntKind.wrap .i64 (n3+(1:Int))))&&decide ((IntKind.wrap .i64 (n3+(1:Int)))≤(((IntKind.wrap .i64 ((PV.num (PV.fld (hvarOf h7 (PV.rI p1)) 1))+(1:Int)))).toNat:Int))&&decide ((((IntKind.wrap .i64 ((PV.num (PV.fld (hvarOf h7 (PV.rI p1)) 1))+(1:Int)))).toNat:Int)≤(((IntKind.wrap .i64 ((PV.num (PV.fld (hvarOf h7 (PV.rI p1)) 1))+(1:Int)))).toNat:Int))) then
 bif (true&&(PV.isRs p6)&&true&&true&&true&&true) then
 bif (decide ((0:Int)≤(IntKind.wrap .i64 (n3+(1:Int))))&&decide ((IntKind.wrap .i64 (n3+(1:Int)))≤((PV.rN p6):Int))&&decide (((PV.rN p6):Int)≤((PV.rN p6):Int))) then
 bif (hokS h15 4 (PV.rs (List.length h7) ((IntKind.wrap .i64 ((PV.num (PV.fld (hvarOf h7 (PV.rI p1)) 1))+(1:Int)))).toNat)&&hokS h15 4 (PV.rs (PV.rI p6) (PV.rN p6))&&true&&true&&true&&true) then
 let h16:List HE:=(List.set h15 (List.length h7) (HE.row 4 (List.take ((IntKind.wrap .i64 (n3+(1:Int)))).toNat (hrowOf h15 (List.length h7))++(List.take (((IntKind.wrap .i64 ((PV.num (PV.fld (hvarOf h7 (PV.rI p1)) 1))+(1:Int)))).toNat - ((IntKind.wrap .i64 (n3+(1:Int)))).toNat) (List.drop ((IntKind.wrap .i64 (n3+(1:Int)))).toNat (hrowOf h15 (PV.rI p6)))++List.drop (((IntKind.wrap .i64 (n3+(1:Int)))).toNat+((PV.rN p6) - ((IntKind.wrap .i64 (n3+(1:Int)))).toNat)) (hrowOf h15 (List.length h7))))))
 c105 p1 n2 n3 (PV.rs (List.length h7) ((IntKind.wrap .i64 ((PV.num (PV.fld (hvarOf h7 (PV.rI p1)) 1))+(1:Int)))).toNat) h16 fun b17 h18 =>
 bif (!b17) then
 ret0 (PV.agg [(PV.int 6),(PV.int 0),(PV.list [])]) n3 h18
 else c91 p1 n2 n3 (PV.rs (List.length h7) ((IntKind.wrap .i64 ((PV.num (PV.fld (hvarOf h7 (PV.rI p1)) 1))+(1:Int)))).toNat) h18 fun p19 n20 h21 =>
 next_w1_1 n20 [p19] h21
 else none
 else none
 else none
 else none
 else none
 else none
 else none
 else none

theorem f107_w1b0_mem (k:Nat)(c91:Chb_1)(c105:Chb_2)(c112:Chb_3)(retF:PV × Int × (List HE)→R)(NX_w1:St→R)(p1:PV)(n2:Int)(n3:Int)(p6:PV)(h7:List HE):exec (f107_E k c91 c105 c112) f107_cw1 (purgeK (f107_E k c91 c105 c112) f107_cw1 (loopK NX_w1 (kont (f107_E k c91 c105 c112) f107_code [1,1,1,0] (endK (f107_E k c91 c105 c112) Try.f107 [1000000000000] f107_un retF)))) (f107_hw1_0 p1 n2 n3 p6 h7)=f107_w1b0 c91 c105 c112 (fun y0 y1 y2=>retF (y0,y1,y2)) (fun _=>NX_w1 (f107_hw1_0 p1 n2 n3 p6 h7)) (fun n22 l23 h24=>NX_w1 (f107_hw1_1 p1 n2 p6 n22 l23 h24)) p1 n2 n3 p6 h7:=by kernel_rfl

noncomputable def f107_w1b0N (k:Nat)(c91:Chb_1)(c105:Chb_2)(c112:Chb_3)(ret0:PV→Int→(List HE)→R)(next_w1_0:Unit→R)(next_w1_1:Int→(List PV)→(List HE)→R)(p1:PV)(n2:Int)(n3:Int)(p6:PV)(h7:List HE):R :=
 f107_w1b0 c91 c105 c112 ret0 next_w1_0 next_w1_1 p1 n2 n3 p6 h7
theorem f107_w1b0_eq (k:Nat)(c91:Chb_1)(c105:Chb_2)(c112:Chb_3)(retF:PV × Int × (List HE)→R)(NX_w1:St→R)(p1:PV)(n2:Int)(n3:Int)(p6:PV)(h7:List HE):exec (f107_E k c91 c105 c112) f107_cw1 (purgeK (f107_E k c91 c105 c112) f107_cw1 (loopK NX_w1 (kont (f107_E k c91 c105 c112) f107_code [1,1,1,0] (endK (f107_E k c91 c105 c112) Try.f107 [1000000000000] f107_un retF)))) (f107_hw1_0 p1 n2 n3 p6 h7)=f107_w1b0N k c91 c105 c112 (fun y0 y1 y2=>retF (y0,y1,y2)) (fun _=>NX_w1 (f107_hw1_0 p1 n2 n3 p6 h7)) (fun n22 l23 h24=>NX_w1 (f107_hw1_1 p1 n2 p6 n22 l23 h24)) p1 n2 n3 p6 h7 :=
 (f107_w1b0_mem k c91 c105 c112 retF NX_w1 p1 n2 n3 p6 h7)

noncomputable def f107_w1b1 (c91:Chb_1)(c105:Chb_2)(c112:Chb_3)(ret0:PV→Int→(List HE)→R)(next_w1_0:Unit→R)(next_w1_1:Int→(List PV)→(List HE)→R)(p1:PV)(n2:Int)(n3:Int)(p6:PV)(h7:List HE)(n22:Int)(l23:List PV)(h24:List HE):R :=
 bif (PV.isRp p1) then
 bif (true&&true&&(hokV h24 142 (PV.rI p1))) then
 bif (true&&(true&&decide ((0:Int)≤(IntKind.wrap .i64 ((PV.num (PV.fld (hvarOf h24 (PV.rI p1)) 1))+(1:Int))))&&decide ((IntKind.wrap .i64 ((PV.num (PV.fld (hvarOf h24 (PV.rI p1)) 1))+(1:Int)))=(IntKind.wrap .i64 ((PV.num (PV.fld (hvarOf h24 (PV.rI p1)) 1))+(1:Int))))&&roomy ((IntKind.wrap .i64 ((PV.num (PV.fld (hvarOf h24 (PV.rI p1)) 1))+(1:Int)))).toNat 1)) then
 let h25:List HE:=(h24++[HE.row 4 (List.replicate ((IntKind.wrap .i64 ((PV.num (PV.fld (hvarOf h24 (PV.rI p1)) 1))+(1:Int)))).toNat (PV.bool false))])
 bif (true&&true&&true&&true&&true&&true) then
 bif (decide ((0:Int)≤(IntKind.wrap .i64 (n22+(1:Int))))&&decide ((IntKind.wrap .i64 (n22+(1:Int)))≤(((IntKind.wrap .i64 ((PV.num (PV.fld (hvarOf h24 (PV.rI p1)) 1))+(1:Int)))).toNat:Int))&&decide ((((IntKind.wrap .i64 ((PV.num (PV.fld (hvarOf h24 (PV.rI p1)) 1))+(1:Int)))).toNat:Int)≤(((IntKind.wrap .i64 ((PV.num (PV.fld (hvarOf h24 (PV.rI p1)) 1))+(1:Int)))).toNat:Int))) then
 bif (true&&(PV.isRs p6)&&true&&true&&true&&true) then
 bif (decide ((0:Int)≤(IntKind.wrap .i64 (n22+(1:Int))))&&decide ((IntKind.wrap .i64 (n22+(1:Int)))≤((PV.rN p6):Int))&&decide (((PV.rN p6):Int)≤((PV.rN p6):Int))) then
 bif (hokS h25 4 (PV.rs (List.length h24) ((IntKind.wrap .i64 ((PV.num (PV.fld (hvarOf h24 (PV.rI p1)) 1))+(1:Int)))).toNat)&&hokS h25 4 (PV.rs (PV.rI p6) (PV.rN p6))&&true&&true&&true&&true) then
 let h26:List HE:=(List.set h25 (List.length h24) (HE.row 4 (List.take ((IntKind.wrap .i64 (n22+(1:Int)))).toNat (hrowOf h25 (List.length h24))++(List.take (((IntKind.wrap .i64 ((PV.num (PV.fld (hvarOf h24 (PV.rI p1)) 1))+(1:Int)))).toNat - ((IntKind.wrap .i64 (n22+(1:Int)))).toNat) (List.drop ((IntKind.wrap .i64 (n22+(1:Int)))).toNat (hrowOf h25 (PV.rI p6)))++List.drop (((IntKind.wrap .i64 (n22+(1:Int)))).toNat+((PV.rN p6) - ((IntKind.wrap .i64 (n22+(1:Int)))).toNat)) (hrowOf h25 (List.length h24))))))
 c105 p1 n2 n22 (PV.rs (List.length h24) ((IntKind.wrap .i64 ((PV.num (PV.fld (hvarOf h24 (PV.rI p1)) 1))+(1:Int)))).toNat) h26 fun b27 h28 =>
 bif (!b27) then
 ret0 (PV.agg [(PV.int 6),(PV.int 0),(PV.list l23)]) n22 h28
 else c91 p1 n2 n22 (PV.rs (List.length h24) ((IntKind.wrap .i64 ((PV.num (PV.fld (hvarOf h24 (PV.rI p1)) 1))+(1:Int)))).toNat) h28 fun p29 n30 h31 =>
 bif (true&&roomy (List.length l23+List.length [p29]) 40) then
 next_w1_1 n30 (l23++[p29]) h31
 else none
 else none
 else none
 else none
 else none
 else none
 else none
 else none
 else none

theorem f107_w1b1_mem (k:Nat)(c91:Chb_1)(c105:Chb_2)(c112:Chb_3)(retF:PV × Int × (List HE)→R)(NX_w1:St→R)(p1:PV)(n2:Int)(n3:Int)(p6:PV)(h7:List HE)(n22:Int)(l23:List PV)(h24:List HE):exec (f107_E k c91 c105 c112) f107_cw1 (purgeK (f107_E k c91 c105 c112) f107_cw1 (loopK NX_w1 (kont (f107_E k c91 c105 c112) f107_code [1,1,1,0] (endK (f107_E k c91 c105 c112) Try.f107 [1000000000000] f107_un retF)))) (f107_hw1_1 p1 n2 p6 n22 l23 h24)=f107_w1b1 c91 c105 c112 (fun y0 y1 y2=>retF (y0,y1,y2)) (fun _=>NX_w1 (f107_hw1_0 p1 n2 n3 p6 h7)) (fun n22 l23 h24=>NX_w1 (f107_hw1_1 p1 n2 p6 n22 l23 h24)) p1 n2 n3 p6 h7 n22 l23 h24:=by kernel_rfl

noncomputable def f107_w1b1N (k:Nat)(c91:Chb_1)(c105:Chb_2)(c112:Chb_3)(ret0:PV→Int→(List HE)→R)(next_w1_0:Unit→R)(next_w1_1:Int→(List PV)→(List HE)→R)(p1:PV)(n2:Int)(n3:Int)(p6:PV)(h7:List HE)(n22:Int)(l23:List PV)(h24:List HE):R :=
 f107_w1b1 c91 c105 c112 ret0 next_w1_0 next_w1_1 p1 n2 n3 p6 h7 n22 l23 h24
theorem f107_w1b1_eq (k:Nat)(c91:Chb_1)(c105:Chb_2)(c112:Chb_3)(retF:PV × Int × (List HE)→R)(NX_w1:St→R)(p1:PV)(n2:Int)(n3:Int)(p6:PV)(h7:List HE)(n22:Int)(l23:List PV)(h24:List HE):exec (f107_E k c91 c105 c112) f107_cw1 (purgeK (f107_E k c91 c105 c112) f107_cw1 (loopK NX_w1 (kont (f107_E k c91 c105 c112) f107_code [1,1,1,0] (endK (f107_E k c91 c105 c112) Try.f107 [1000000000000] f107_un retF)))) (f107_hw1_1 p1 n2 p6 n22 l23 h24)=f107_w1b1N k c91 c105 c112 (fun y0 y1 y2=>retF (y0,y1,y2)) (fun _=>NX_w1 (f107_hw1_0 p1 n2 n3 p6 h7)) (fun n22 l23 h24=>NX_w1 (f107_hw1_1 p1 n2 p6 n22 l23 h24)) p1 n2 n3 p6 h7 n22 l23 h24 :=
 (f107_w1b1_mem k c91 c105 c112 retF NX_w1 p1 n2 n3 p6 h7 n22 l23 h24)

noncomputable def f107_w1B (k:Nat)(c91:Chb_1)(c105:Chb_2)(c112:Chb_3)(ret0:PV→Int→(List HE)→R)(p1:PV)(n2:Int)(n3:Int)(p6:PV)(h7:List HE)(nx:Sum (Unit) (Int × (List PV) × (List HE))→R):Sum (Unit) (Int × (List PV) × (List HE))→R:=(Sum.elim (fun s=>f107_w1b0N k c91 c105 c112 ret0 (fun _=>nx (.inl ())) (fun n22 l23 h24=>nx (.inr (n22,l23,h24))) p1 n2 n3 p6 h7) (fun s=>f107_w1b1N k c91 c105 c112 ret0 (fun _=>nx (.inl ())) (fun n22 l23 h24=>nx (.inr (n22,l23,h24))) p1 n2 n3 p6 h7 s.1 s.2.1 s.2.2))
noncomputable def f107_w1N (k:Nat)(c91:Chb_1)(c105:Chb_2)(c112:Chb_3)(ret0:PV→Int→(List HE)→R)(p1:PV)(n2:Int)(n3:Int)(p6:PV)(h7:List HE):R:=loopR (f107_w1B k c91 c105 c112 ret0 p1 n2 n3 p6 h7) k (.inl ())
theorem f107_w1_eq (k:Nat)(c91:Chb_1)(c105:Chb_2)(c112:Chb_3)(retF:PV × Int × (List HE)→R)(p1:PV)(n2:Int)(n3:Int)(p6:PV)(h7:List HE):f107_w1A k c91 c105 c112 retF p1 n2 n3 p6 h7=f107_w1N k c91 c105 c112 (fun y0 y1 y2=>retF (y0,y1,y2)) p1 n2 n3 p6 h7 :=
 Eq.mp (by kernel_rfl) (loop_sim (E:=(f107_E k c91 c105 c112)) (c:=f107_cw1) (K:=(kont (f107_E k c91 c105 c112) f107_code [1,1,1,0] (endK (f107_E k c91 c105 c112) Try.f107 [1000000000000] f107_un retF))) (S:=Sum (Unit) (Int × (List PV) × (List HE))) (Sum.elim (fun s=>f107_hw1_0 p1 n2 n3 p6 h7) (fun s=>f107_hw1_1 p1 n2 p6 s.1 s.2.1 s.2.2)) (f107_w1B k c91 c105 c112 (fun y0 y1 y2=>retF (y0,y1,y2)) p1 n2 n3 p6 h7) (fun NX s=>by
  cases s with
  | inl s=>exact Eq.mp (by kernel_rfl) (f107_w1b0_eq k c91 c105 c112 retF NX p1 n2 n3 p6 h7)
  | inr s =>
   exact Eq.mp (by kernel_rfl) (f107_w1b1_eq k c91 c105 c112 retF NX p1 n2 n3 p6 h7 s.1 s.2.1 s.2.2)) k (.inl ()))

noncomputable def f107_e (c91:Chb_1)(c105:Chb_2)(c112:Chb_3)(ret0:PV→Int→(List HE)→R)(w1:PV→(List HE)→R)(p1:PV)(n2:Int)(n3:Int)(p4:PV)(h5:List HE):R :=
 c112 p1 n2 p4 h5 fun p6 h7 =>
 w1 p6 h7

theorem f107_e_mem (k:Nat)(c91:Chb_1)(c105:Chb_2)(c112:Chb_3)(retF:PV × Int × (List HE)→R)(p1:PV)(n2:Int)(n3:Int)(p4:PV)(h5:List HE):exec (f107_E k c91 c105 c112) f107_code (endK (f107_E k c91 c105 c112) Try.f107 [1000000000000] f107_un retF) ⟨[.hval 140 p1,.int .i64 n2,.int .i64 n3,.hval 143 p4,.undef,.undef,.undef,.undef,.undef,.undef,.undef,.undef,.undef,.undef,.undef,.undef,.undef,.undef,.undef,.undef,.undef,.undef,.undef,.undef,.undef,.undef,.undef,.undef,.undef,.undef,.undef,.undef,.undef,.undef,.undef,.undef,.undef,.undef,.undef,.undef,.undef,.undef,.undef,.undef,.undef,.undef,.undef,.undef,.undef,.undef,.undef,.undef,.undef,.undef,.undef,.undef],[(1000000000000,.hp h5)]⟩=f107_e c91 c105 c112 (fun y0 y1 y2=>retF (y0,y1,y2)) (fun p6 h7=>f107_w1A k c91 c105 c112 retF p1 n2 n3 p6 h7) p1 n2 n3 p4 h5:=by kernel_rfl

noncomputable def f107_N (k:Nat)(c91:Chb_1)(c105:Chb_2)(c112:Chb_3)(ret0:PV→Int→(List HE)→R)(p1:PV)(n2:Int)(n3:Int)(p4:PV)(h5:List HE):R :=
 f107_e c91 c105 c112 ret0 (fun p6 h7=>f107_w1N k c91 c105 c112 ret0 p1 n2 n3 p6 h7) p1 n2 n3 p4 h5
theorem f107_eq (k:Nat)(c91:Chb_1)(c105:Chb_2)(c112:Chb_3)(retF:PV × Int × (List HE)→R)(p1:PV)(n2:Int)(n3:Int)(p4:PV)(h5:List HE):exec (f107_E k c91 c105 c112) f107_code (endK (f107_E k c91 c105 c112) Try.f107 [1000000000000] f107_un retF) ⟨[.hval 140 p1,.int .i64 n2,.int .i64 n3,.hval 143 p4,.undef,.undef,.undef,.undef,.undef,.undef,.undef,.undef,.undef,.undef,.undef,.undef,.undef,.undef,.undef,.undef,.undef,.undef,.undef,.undef,.undef,.undef,.undef,.undef,.undef,.undef,.undef,.undef,.undef,.undef,.undef,.undef,.undef,.undef,.undef,.undef,.undef,.undef,.undef,.undef,.undef,.undef,.undef,.undef,.undef,.undef,.undef,.undef,.undef,.undef,.undef,.undef],[(1000000000000,.hp h5)]⟩=f107_N k c91 c105 c112 (fun y0 y1 y2=>retF (y0,y1,y2)) p1 n2 n3 p4 h5 :=
 (f107_e_mem k c91 c105 c112 retF p1 n2 n3 p4 h5).trans (by rw [show (fun p6 h7=>f107_w1A k c91 c105 c112 retF p1 n2 n3 p6 h7)=(fun p6 h7=>f107_w1N k c91 c105 c112 (fun y0 y1 y2=>retF (y0,y1,y2)) p1 n2 n3 p6 h7) from funext fun p6=>funext fun h7=>f107_w1_eq k c91 c105 c112 retF p1 n2 n3 p6 h7];rfl)

noncomputable def f106_msk:Nat→Option (List Nat):=fun key=> none
noncomputable def f106_C (c91:Chb_1):Oracle:=orc 91 f91_D f91_O (fun x ret=>c91 x.1 x.2.1 x.2.2.1 x.2.2.2.1 x.2.2.2.2 (fun y0 y1 y2=>ret (y0,y1,y2))) <| orc0
noncomputable def f106_E (k:Nat)(c91:Chb_1):Env:={ P:=Try.prog,nilOwn:=fun d=>false,fldOwn:=fun d i=>false,ownPar:=ownPars,ownRet:=false,hpD:=fun d=>false,hpF:=hpFs,hpNew:=false,mask:=f106_msk,fuel:=k,C:=f106_C c91 }
noncomputable def f106_code:Code:=Try.f106.body.getD .skip
noncomputable def f106_e (c91:Chb_1)(ret0:PV→Int→(List HE)→R)(p1:PV)(n2:Int)(n3:Int)(n4:Int)(p5:PV)(h6:List HE):R :=
 c91 p1 n3 n4 p5 h6 fun p7 n8 h9 =>
 ret0 (PV.agg [(PV.int n2),(PV.int 0),(PV.list [p7])]) n8 h9

theorem f106_e_mem (k:Nat)(c91:Chb_1)(retF:PV × Int × (List HE)→R)(p1:PV)(n2:Int)(n3:Int)(n4:Int)(p5:PV)(h6:List HE):exec (f106_E k c91) f106_code (endK (f106_E k c91) Try.f106 [1000000000000] f106_un retF) ⟨[.hval 140 p1,.int .i64 n2,.int .i64 n3,.int .i64 n4,.hval 143 p5,.undef,.undef,.undef,.undef,.undef,.undef,.undef,.undef,.undef,.undef,.undef,.undef,.undef,.undef,.undef,.undef,.undef,.undef,.undef,.undef,.undef,.undef],[(1000000000000,.hp h6)]⟩=f106_e c91 (fun y0 y1 y2=>retF (y0,y1,y2)) p1 n2 n3 n4 p5 h6:=by kernel_rfl

noncomputable def f106_N (k:Nat)(c91:Chb_1)(ret0:PV→Int→(List HE)→R)(p1:PV)(n2:Int)(n3:Int)(n4:Int)(p5:PV)(h6:List HE):R :=
 f106_e c91 ret0 p1 n2 n3 n4 p5 h6
theorem f106_eq (k:Nat)(c91:Chb_1)(retF:PV × Int × (List HE)→R)(p1:PV)(n2:Int)(n3:Int)(n4:Int)(p5:PV)(h6:List HE):exec (f106_E k c91) f106_code (endK (f106_E k c91) Try.f106 [1000000000000] f106_un retF) ⟨[.hval 140 p1,.int .i64 n2,.int .i64 n3,.int .i64 n4,.hval 143 p5,.undef,.undef,.undef,.undef,.undef,.undef,.undef,.undef,.undef,.undef,.undef,.undef,.undef,.undef,.undef,.undef,.undef,.undef,.undef,.undef,.undef,.undef],[(1000000000000,.hp h6)]⟩=f106_N k c91 (fun y0 y1 y2=>retF (y0,y1,y2)) p1 n2 n3 n4 p5 h6 :=
 (f106_e_mem k c91 retF p1 n2 n3 n4 p5 h6)

noncomputable def f91_msk:Nat→Option (List Nat):=fun key=>bif key==24 then some [0,2,3,8,10,11,12] else none
noncomputable def f91_C (c76:Chb_4)(c91:Chb_1)(c105:Chb_2)(c106:Chb_5)(c107:Chb_1):Oracle:=orc 76 f76_D f76_O (fun x ret=>c76 x.1 x.2.1 x.2.2 (fun y0 y1=>ret (y0,y1))) <| orc 91 f91_D f91_O (fun x ret=>c91 x.1 x.2.1 x.2.2.1 x.2.2.2.1 x.2.2.2.2 (fun y0 y1 y2=>ret (y0,y1,y2))) <| orc 105 f105_D f105_O (fun x ret=>c105 x.1 x.2.1 x.2.2.1 x.2.2.2.1 x.2.2.2.2 (fun y0 y1=>ret (y0,y1))) <| orc 106 f106_D f106_O (fun x ret=>c106 x.1 x.2.1 x.2.2.1 x.2.2.2.1 x.2.2.2.2.1 x.2.2.2.2.2 (fun y0 y1 y2=>ret (y0,y1,y2))) <| orc 107 f107_D f107_O (fun x ret=>c107 x.1 x.2.1 x.2.2.1 x.2.2.2.1 x.2.2.2.2 (fun y0 y1 y2=>ret (y0,y1,y2))) <| orc0
noncomputable def f91_E (k:Nat)(c76:Chb_4)(c91:Chb_1)(c105:Chb_2)(c106:Chb_5)(c107:Chb_1):Env:={ P:=Try.prog,nilOwn:=fun d=>false,fldOwn:=fun d i=>false,ownPar:=ownPars,ownRet:=false,hpD:=fun d=>d==48,hpF:=hpFs,hpNew:=false,mask:=f91_msk,fuel:=k,C:=f91_C c76 c91 c105 c106 c107 }
noncomputable def f91_code:Code:=Try.f91.body.getD .skip
noncomputable def f91_cw1:Code:=subC f91_code [1,1,0,1,0,1,1,1,0,1,0,1,0,0]
noncomputable def f91_hw1_0 (p1:PV)(n3:Int)(p4:PV)(h5:List HE)(p6:PV)(n19:Int)(h20:List HE):St:=⟨[.hval 140 p1,.dead,.int .i64 n3,.hval 143 p4,.dead,.dead,.dead,.dead,.ptr 8 [],.dead,.ptr 10 [],.hval 143 (PV.rs (List.length h5) ((IntKind.wrap .i64 ((PV.num (PV.fld (hvarOf h5 (PV.rI p1)) 1))+(1:Int)))).toNat),.int .i64 n19,.dead,.dead,.dead,.dead,.dead,.dead,.dead,.dead,.dead,.dead,.dead,.dead,.dead,.dead,.dead,.dead,.dead,.dead,.dead,.dead,.dead,.dead,.dead,.dead,.dead,.dead,.dead,.dead,.dead,.dead,.dead,.dead,.dead,.dead,.dead,.dead,.dead,.dead,.dead,.dead,.dead,.dead,.dead,.dead,.dead,.dead,.dead,.dead,.dead,.dead,.dead,.dead,.dead,.dead,.dead,.dead,.dead,.dead,.dead,.dead,.dead,.dead,.dead,.dead,.dead,.dead,.dead,.dead,.dead,.dead,.dead,.dead,.dead,.dead,.dead,.dead,.dead,.dead,.dead,.dead,.dead,.dead,.dead,.dead,.dead,.dead,.dead,.dead,.dead,.dead,.dead,.dead,.dead,.dead,.dead,.dead,.dead,.dead,.dead,.dead,.dead,.dead,.dead,.dead,.dead,.dead,.dead,.dead,.dead,.dead,.dead,.dead,.dead,.dead,.dead,.dead,.dead,.dead,.dead,.dead,.dead,.dead,.dead,.dead,.dead,.dead,.dead,.dead,.dead,.dead,.dead,.dead,.dead,.dead,.dead,.dead,.dead,.dead,.dead,.dead,.dead,.dead,.dead,.dead,.dead,.dead,.dead,.dead,.dead,.dead,.dead],[(8,.box 39 (.val 39 (PV.agg [(PV.int 0),(PV.int 0),(PV.list [])]))),(10,.box 122 (.hval 122 p6)),(1000000000000,.hp h20)]⟩
noncomputable def f91_w1A (k:Nat)(c76:Chb_4)(c91:Chb_1)(c105:Chb_2)(c106:Chb_5)(c107:Chb_1)(retF:PV × Int × (List HE)→R)(p1:PV)(n3:Int)(p4:PV)(h5:List HE)(p6:PV)(n19:Int)(h20:List HE):R:=loopM (f91_E k c76 c91 c105 c106 c107) f91_cw1 (kont (f91_E k c76 c91 c105 c106 c107) f91_code [1,1,0,1,0,1,1,1,0,1,0,1,0] (endK (f91_E k c76 c91 c105 c106 c107) Try.f91 [1000000000000] f91_un retF)) k (f91_hw1_0 p1 n3 p4 h5 p6 n19 h20)
noncomputable def f91_w1b0 (c76:Chb_4)(c91:Chb_1)(c105:Chb_2)(c106:Chb_5)(c107:Chb_1)(ret0:PV→Int→(List HE)→R)(next_w1_0:Int→(List HE)→R)(p1:PV)(n3:Int)(p4:PV)(h5:List HE)(p6:PV)(n19:Int)(h20:List HE):R :=
 bif (PV.isRp p1) then
 bif (true&&true&&(hokV h20 142 (PV.rI p1))) then
 bif (decide (n19≤(PV.num (PV.fld (hvarOf h20 (PV.rI p1)) 1)))) then
 bif (true&&decide ((0:Int)≤(1:Int))&&decide ((1:Int) < ((PV.rN (PV.fld p6 1)):Int))) then
 bif (true&&true&&(hokR h20 3 (PV.rI (PV.fld p6 1)) (1:Int))) then
 c105 p1 (PV.num (List.getD (hrowOf h20 (PV.rI (PV.fld p6 1))) ((1:Int)).toNat PV.nil)) n19 p4 h20 fun b21 h22 =>
 bif (true&&decide ((0:Int)≤n19)&&decide (n19 < (((IntKind.wrap .i64 ((PV.num (PV.fld (hvarOf h5 (PV.rI p1)) 1))+(1:Int)))).toNat:Int))) then
 bif (true&&(hokR h22 4 (List.length h5) n19)) then
 let h23:List HE:=(List.set h22 (List.length h5) (HE.row 4 (List.set (hrowOf h22 (List.length h5)) (n19).toNat (PV.bool b21))))
 next_w1_0 (IntKind.wrap .i64 (n19+(1:Int))) h23
 else none
 else none
 else none
 else none
 else bif (true&&decide ((0:Int)≤(0:Int))&&decide ((0:Int) < ((PV.rN (PV.fld p6 1)):Int))) then
 bif (true&&true&&(hokR h20 3 (PV.rI (PV.fld p6 1)) (0:Int))) then
 c91 p1 (PV.num (List.getD (hrowOf h20 (PV.rI (PV.fld p6 1))) ((0:Int)).toNat PV.nil)) n3 (PV.rs (List.length h5) ((IntKind.wrap .i64 ((PV.num (PV.fld (hvarOf h5 (PV.rI p1)) 1))+(1:Int)))).toNat) h20 fun p24 n25 h26 =>
 bif (true&&decide ((0:Int)≤(1:Int))&&decide ((1:Int) < ((PV.rN (PV.fld p6 1)):Int))) then
 bif (true&&true&&(hokR h26 3 (PV.rI (PV.fld p6 1)) (1:Int))) then
 c91 p1 (PV.num (List.getD (hrowOf h26 (PV.rI (PV.fld p6 1))) ((1:Int)).toNat PV.nil)) n25 p4 h26 fun p27 n28 h29 =>
 ret0 (PV.agg [(PV.int 3),(PV.int 0),(PV.list [p24,p27])]) n28 h29
 else none
 else none
 else none
 else none
 else none
 else none

theorem f91_w1b0_mem (k:Nat)(c76:Chb_4)(c91:Chb_1)(c105:Chb_2)(c106:Chb_5)(c107:Chb_1)(retF:PV × Int × (List HE)→R)(NX_w1:St→R)(p1:PV)(n3:Int)(p4:PV)(h5:List HE)(p6:PV)(n19:Int)(h20:List HE):exec (f91_E k c76 c91 c105 c106 c107) f91_cw1 (purgeK (f91_E k c76 c91 c105 c106 c107) f91_cw1 (loopK NX_w1 (kont (f91_E k c76 c91 c105 c106 c107) f91_code [1,1,0,1,0,1,1,1,0,1,0,1,0] (endK (f91_E k c76 c91 c105 c106 c107) Try.f91 [1000000000000] f91_un retF)))) (f91_hw1_0 p1 n3 p4 h5 p6 n19 h20)=f91_w1b0 c76 c91 c105 c106 c107 (fun y0 y1 y2=>retF (y0,y1,y2)) (fun n19 h20=>NX_w1 (f91_hw1_0 p1 n3 p4 h5 p6 n19 h20)) p1 n3 p4 h5 p6 n19 h20:=by kernel_rfl

noncomputable def f91_w1b0N (k:Nat)(c76:Chb_4)(c91:Chb_1)(c105:Chb_2)(c106:Chb_5)(c107:Chb_1)(ret0:PV→Int→(List HE)→R)(next_w1_0:Int→(List HE)→R)(p1:PV)(n3:Int)(p4:PV)(h5:List HE)(p6:PV)(n19:Int)(h20:List HE):R :=
 f91_w1b0 c76 c91 c105 c106 c107 ret0 next_w1_0 p1 n3 p4 h5 p6 n19 h20
theorem f91_w1b0_eq (k:Nat)(c76:Chb_4)(c91:Chb_1)(c105:Chb_2)(c106:Chb_5)(c107:Chb_1)(retF:PV × Int × (List HE)→R)(NX_w1:St→R)(p1:PV)(n3:Int)(p4:PV)(h5:List HE)(p6:PV)(n19:Int)(h20:List HE):exec (f91_E k c76 c91 c105 c106 c107) f91_cw1 (purgeK (f91_E k c76 c91 c105 c106 c107) f91_cw1 (loopK NX_w1 (kont (f91_E k c76 c91 c105 c106 c107) f91_code [1,1,0,1,0,1,1,1,0,1,0,1,0] (endK (f91_E k c76 c91 c105 c106 c107) Try.f91 [1000000000000] f91_un retF)))) (f91_hw1_0 p1 n3 p4 h5 p6 n19 h20)=f91_w1b0N k c76 c91 c105 c106 c107 (fun y0 y1 y2=>retF (y0,y1,y2)) (fun n19 h20=>NX_w1 (f91_hw1_0 p1 n3 p4 h5 p6 n19 h20)) p1 n3 p4 h5 p6 n19 h20 :=
 (f91_w1b0_mem k c76 c91 c105 c106 c107 retF NX_w1 p1 n3 p4 h5 p6 n19 h20)

noncomputable def f91_w1B (k:Nat)(c76:Chb_4)(c91:Chb_1)(c105:Chb_2)(c106:Chb_5)(c107:Chb_1)(ret0:PV→Int→(List HE)→R)(p1:PV)(n3:Int)(p4:PV)(h5:List HE)(p6:PV)(nx:Int × (List HE)→R):Int × (List HE)→R:=(fun s=>f91_w1b0N k c76 c91 c105 c106 c107 ret0 (fun n19 h20=>nx (n19,h20)) p1 n3 p4 h5 p6 s.1 s.2)
noncomputable def f91_w1N (k:Nat)(c76:Chb_4)(c91:Chb_1)(c105:Chb_2)(c106:Chb_5)(c107:Chb_1)(ret0:PV→Int→(List HE)→R)(p1:PV)(n3:Int)(p4:PV)(h5:List HE)(p6:PV)(n19:Int)(h20:List HE):R:=loopR (f91_w1B k c76 c91 c105 c106 c107 ret0 p1 n3 p4 h5 p6) k (n19,h20)
theorem f91_w1_eq (k:Nat)(c76:Chb_4)(c91:Chb_1)(c105:Chb_2)(c106:Chb_5)(c107:Chb_1)(retF:PV × Int × (List HE)→R)(p1:PV)(n3:Int)(p4:PV)(h5:List HE)(p6:PV)(n19:Int)(h20:List HE):f91_w1A k c76 c91 c105 c106 c107 retF p1 n3 p4 h5 p6 n19 h20=f91_w1N k c76 c91 c105 c106 c107 (fun y0 y1 y2=>retF (y0,y1,y2)) p1 n3 p4 h5 p6 n19 h20 :=
 Eq.mp (by kernel_rfl) (loop_sim (E:=(f91_E k c76 c91 c105 c106 c107)) (c:=f91_cw1) (K:=(kont (f91_E k c76 c91 c105 c106 c107) f91_code [1,1,0,1,0,1,1,1,0,1,0,1,0] (endK (f91_E k c76 c91 c105 c106 c107) Try.f91 [1000000000000] f91_un retF))) (S:=Int × (List HE)) (fun s=>f91_hw1_0 p1 n3 p4 h5 p6 s.1 s.2) (f91_w1B k c76 c91 c105 c106 c107 (fun y0 y1 y2=>retF (y0,y1,y2)) p1 n3 p4 h5 p6) (fun NX s=>by
  exact Eq.mp (by kernel_rfl) (f91_w1b0_eq k c76 c91 c105 c106 c107 retF NX p1 n3 p4 h5 p6 s.1 s.2)) k (n19,h20))

noncomputable def f91_e (c76:Chb_4)(c91:Chb_1)(c105:Chb_2)(c106:Chb_5)(c107:Chb_1)(ret0:PV→Int→(List HE)→R)(w1:PV→Int→(List HE)→R)(p1:PV)(n2:Int)(n3:Int)(p4:PV)(h5:List HE):R :=
 bif (PV.isRp p1) then
 bif (true&&true&&(hokV h5 142 (PV.rI p1))) then
 bif (PV.isRp (PV.fld (hvarOf h5 (PV.rI p1)) 0)) then
 bif (true&&true&&(hokV h5 116 (PV.rI (PV.fld (hvarOf h5 (PV.rI p1)) 0)))) then
 bif (true&&decide ((0:Int)≤n2)&&decide (n2 < ((PV.rN (PV.fld (hvarOf h5 (PV.rI (PV.fld (hvarOf h5 (PV.rI p1)) 0))) 0)):Int))) then
 bif (true&&true&&(hokR h5 122 (PV.rI (PV.fld (hvarOf h5 (PV.rI (PV.fld (hvarOf h5 (PV.rI p1)) 0))) 0)) n2)) then
 let p6:PV:=(List.getD (hrowOf h5 (PV.rI (PV.fld (hvarOf h5 (PV.rI (PV.fld (hvarOf h5 (PV.rI p1)) 0))) 0))) (n2).toNat PV.nil)
 bif (decide ((PV.num (PV.fld (PV.fld p6 0) 0))=(2:Int))) then
 bif (PV.isRp p1) then
 bif (true&&true&&(hokV h5 142 (PV.rI p1))) then
 c76 (PV.fld (hvarOf h5 (PV.rI p1)) 0) n3 h5 fun n7 h8 =>
 ret0 (PV.agg [(PV.int 2),(PV.int n7),(PV.list [])]) (IntKind.wrap .i64 (n3+(1:Int))) h8
 else none
 else none
 else bif (decide ((PV.num (PV.fld (PV.fld p6 0) 0))=(3:Int))) then
 bif (PV.isRp p1) then
 bif (true&&true&&(hokV h5 142 (PV.rI p1))) then
 bif (true&&(true&&decide ((0:Int)≤(IntKind.wrap .i64 ((PV.num (PV.fld (hvarOf h5 (PV.rI p1)) 1))+(1:Int))))&&decide ((IntKind.wrap .i64 ((PV.num (PV.fld (hvarOf h5 (PV.rI p1)) 1))+(1:Int)))=(IntKind.wrap .i64 ((PV.num (PV.fld (hvarOf h5 (PV.rI p1)) 1))+(1:Int))))&&roomy ((IntKind.wrap .i64 ((PV.num (PV.fld (hvarOf h5 (PV.rI p1)) 1))+(1:Int)))).toNat 1)) then
 let h9:List HE:=(h5++[HE.row 4 (List.replicate ((IntKind.wrap .i64 ((PV.num (PV.fld (hvarOf h5 (PV.rI p1)) 1))+(1:Int)))).toNat (PV.bool false))])
 w1 p6 n3 h9
 else none
 else none
 else none
 else bif (decide ((PV.num (PV.fld (PV.fld p6 0) 0))=(4:Int))) then
 bif (true&&decide ((0:Int)≤(0:Int))&&decide ((0:Int) < ((PV.rN (PV.fld p6 1)):Int))) then
 bif (true&&true&&(hokR h5 3 (PV.rI (PV.fld p6 1)) (0:Int))) then
 c105 p1 (PV.num (List.getD (hrowOf h5 (PV.rI (PV.fld p6 1))) ((0:Int)).toNat PV.nil)) n3 p4 h5 fun b30 h31 =>
 bif b30 then
 bif (true&&decide ((0:Int)≤(0:Int))&&decide ((0:Int) < ((PV.rN (PV.fld p6 1)):Int))) then
 bif (true&&true&&(hokR h31 3 (PV.rI (PV.fld p6 1)) (0:Int))) then
 c106 p1 4 (PV.num (List.getD (hrowOf h31 (PV.rI (PV.fld p6 1))) ((0:Int)).toNat PV.nil)) n3 p4 h31 fun p32 n33 h34 =>
 ret0 p32 n33 h34
 else none
 else none
 else bif (true&&decide ((0:Int)≤(1:Int))&&decide ((1:Int) < ((PV.rN (PV.fld p6 1)):Int))) then
 bif (true&&true&&(hokR h31 3 (PV.rI (PV.fld p6 1)) (1:Int))) then
 c106 p1 5 (PV.num (List.getD (hrowOf h31 (PV.rI (PV.fld p6 1))) ((1:Int)).toNat PV.nil)) n3 p4 h31 fun p35 n36 h37 =>
 ret0 p35 n36 h37
 else none
 else none
 else none
 else none
 else bif (decide ((PV.num (PV.fld (PV.fld p6 0) 0))=(5:Int))) then
 bif (true&&decide ((0:Int)≤(0:Int))&&decide ((0:Int) < ((PV.rN (PV.fld p6 1)):Int))) then
 bif (true&&true&&(hokR h5 3 (PV.rI (PV.fld p6 1)) (0:Int))) then
 c107 p1 (PV.num (List.getD (hrowOf h5 (PV.rI (PV.fld p6 1))) ((0:Int)).toNat PV.nil)) n3 p4 h5 fun p38 n39 h40 =>
 ret0 p38 n39 h40
 else none
 else none
 else bif (decide ((PV.num (PV.fld (PV.fld p6 0) 0))=(6:Int))) then
 bif (true&&decide ((0:Int)≤(0:Int))&&decide ((0:Int) < ((PV.rN (PV.fld p6 1)):Int))) then
 bif (true&&true&&(hokR h5 3 (PV.rI (PV.fld p6 1)) (0:Int))) then
 c106 p1 7 (PV.num (List.getD (hrowOf h5 (PV.rI (PV.fld p6 1))) ((0:Int)).toNat PV.nil)) n3 p4 h5 fun p41 n42 h43 =>
 ret0 p41 n42 h43
 else none
 else none
 else bif (decide ((PV.num (PV.fld (PV.fld p6 0) 0))=(7:Int))) then
 bif (true&&decide ((0:Int)≤(0:Int))&&decide ((0:Int) < ((PV.rN (PV.fld p6 1)):Int))) then
 bif (true&&true&&(hokR h5 3 (PV.rI (PV.fld p6 1)) (0:Int))) then
 c91 p1 (PV.num (List.getD (hrowOf h5 (PV.rI (PV.fld p6 1))) ((0:Int)).toNat PV.nil)) n3 p4 h5 fun p44 n45 h46 =>
 ret0 p44 n45 h46
 else none
 else none
 else ret0 (PV.agg [(PV.int 1),(PV.int 0),(PV.list [])]) n3 h5
 else none
 else none
 else none
 else none
 else none
 else none

theorem f91_e_mem (k:Nat)(c76:Chb_4)(c91:Chb_1)(c105:Chb_2)(c106:Chb_5)(c107:Chb_1)(retF:PV × Int × (List HE)→R)(p1:PV)(n2:Int)(n3:Int)(p4:PV)(h5:List HE):exec (f91_E k c76 c91 c105 c106 c107) f91_code (endK (f91_E k c76 c91 c105 c106 c107) Try.f91 [1000000000000] f91_un retF) ⟨[.hval 140 p1,.int .i64 n2,.int .i64 n3,.hval 143 p4,.undef,.undef,.undef,.undef,.undef,.undef,.undef,.undef,.undef,.undef,.undef,.undef,.undef,.undef,.undef,.undef,.undef,.undef,.undef,.undef,.undef,.undef,.undef,.undef,.undef,.undef,.undef,.undef,.undef,.undef,.undef,.undef,.undef,.undef,.undef,.undef,.undef,.undef,.undef,.undef,.undef,.undef,.undef,.undef,.undef,.undef,.undef,.undef,.undef,.undef,.undef,.undef,.undef,.undef,.undef,.undef,.undef,.undef,.undef,.undef,.undef,.undef,.undef,.undef,.undef,.undef,.undef,.undef,.undef,.undef,.undef,.undef,.undef,.undef,.undef,.undef,.undef,.undef,.undef,.undef,.undef,.undef,.undef,.undef,.undef,.undef,.undef,.undef,.undef,.undef,.undef,.undef,.undef,.undef,.undef,.undef,.undef,.undef,.undef,.undef,.undef,.undef,.undef,.undef,.undef,.undef,.undef,.undef,.undef,.undef,.undef,.undef,.undef,.undef,.undef,.undef,.undef,.undef,.undef,.undef,.undef,.undef,.undef,.undef,.undef,.undef,.undef,.undef,.undef,.undef,.undef,.undef,.undef,.undef,.undef,.undef,.undef,.undef,.undef,.undef,.undef,.undef,.undef,.undef,.undef,.undef,.undef,.undef,.undef,.undef,.undef,.undef,.undef,.undef,.undef,.undef,.undef,.undef,.undef,.undef],[(1000000000000,.hp h5)]⟩=f91_e c76 c91 c105 c106 c107 (fun y0 y1 y2=>retF (y0,y1,y2)) (fun p6 n19 h20=>f91_w1A k c76 c91 c105 c106 c107 retF p1 n3 p4 h5 p6 n19 h20) p1 n2 n3 p4 h5:=by kernel_rfl

noncomputable def f91_N (k:Nat)(c76:Chb_4)(c91:Chb_1)(c105:Chb_2)(c106:Chb_5)(c107:Chb_1)(ret0:PV→Int→(List HE)→R)(p1:PV)(n2:Int)(n3:Int)(p4:PV)(h5:List HE):R :=
 f91_e c76 c91 c105 c106 c107 ret0 (fun p6 n19 h20=>f91_w1N k c76 c91 c105 c106 c107 ret0 p1 n3 p4 h5 p6 n19 h20) p1 n2 n3 p4 h5
theorem f91_eq (k:Nat)(c76:Chb_4)(c91:Chb_1)(c105:Chb_2)(c106:Chb_5)(c107:Chb_1)(retF:PV × Int × (List HE)→R)(p1:PV)(n2:Int)(n3:Int)(p4:PV)(h5:List HE):exec (f91_E k c76 c91 c105 c106 c107) f91_code (endK (f91_E k c76 c91 c105 c106 c107) Try.f91 [1000000000000] f91_un retF) ⟨[.hval 140 p1,.int .i64 n2,.int .i64 n3,.hval 143 p4,.undef,.undef,.undef,.undef,.undef,.undef,.undef,.undef,.undef,.undef,.undef,.undef,.undef,.undef,.undef,.undef,.undef,.undef,.undef,.undef,.undef,.undef,.undef,.undef,.undef,.undef,.undef,.undef,.undef,.undef,.undef,.undef,.undef,.undef,.undef,.undef,.undef,.undef,.undef,.undef,.undef,.undef,.undef,.undef,.undef,.undef,.undef,.undef,.undef,.undef,.undef,.undef,.undef,.undef,.undef,.undef,.undef,.undef,.undef,.undef,.undef,.undef,.undef,.undef,.undef,.undef,.undef,.undef,.undef,.undef,.undef,.undef,.undef,.undef,.undef,.undef,.undef,.undef,.undef,.undef,.undef,.undef,.undef,.undef,.undef,.undef,.undef,.undef,.undef,.undef,.undef,.undef,.undef,.undef,.undef,.undef,.undef,.undef,.undef,.undef,.undef,.undef,.undef,.undef,.undef,.undef,.undef,.undef,.undef,.undef,.undef,.undef,.undef,.undef,.undef,.undef,.undef,.undef,.undef,.undef,.undef,.undef,.undef,.undef,.undef,.undef,.undef,.undef,.undef,.undef,.undef,.undef,.undef,.undef,.undef,.undef,.undef,.undef,.undef,.undef,.undef,.undef,.undef,.undef,.undef,.undef,.undef,.undef,.undef,.undef,.undef,.undef,.undef,.undef,.undef,.undef,.undef,.undef,.undef,.undef],[(1000000000000,.hp h5)]⟩=f91_N k c76 c91 c105 c106 c107 (fun y0 y1 y2=>retF (y0,y1,y2)) p1 n2 n3 p4 h5 :=
 (f91_e_mem k c76 c91 c105 c106 c107 retF p1 n2 n3 p4 h5).trans (by rw [show (fun p6 n19 h20=>f91_w1A k c76 c91 c105 c106 c107 retF p1 n3 p4 h5 p6 n19 h20)=(fun p6 n19 h20=>f91_w1N k c76 c91 c105 c106 c107 (fun y0 y1 y2=>retF (y0,y1,y2)) p1 n3 p4 h5 p6 n19 h20) from funext fun p6=>funext fun n19=>funext fun h20=>f91_w1_eq k c76 c91 c105 c106 c107 retF p1 n3 p4 h5 p6 n19 h20];rfl)

mutual
noncomputable def G107:Nat→PV→Int→Int→PV→(List HE)→(PV→Int→(List HE)→R)→R
 | 0,_,_,_,_,_,_=>none
 | k+1,p1,n2,n3,p4,h5,ret0=>f107_N k (G91 k) (G105 k) (G112 k) ret0 p1 n2 n3 p4 h5
noncomputable def G106:Nat→PV→Int→Int→Int→PV→(List HE)→(PV→Int→(List HE)→R)→R
 | 0,_,_,_,_,_,_,_=>none
 | k+1,p1,n2,n3,n4,p5,h6,ret0=>f106_N k (G91 k) ret0 p1 n2 n3 n4 p5 h6
noncomputable def G91:Nat→PV→Int→Int→PV→(List HE)→(PV→Int→(List HE)→R)→R
 | 0,_,_,_,_,_,_=>none
 | k+1,p1,n2,n3,p4,h5,ret0=>f91_N k (G76 k) (G91 k) (G105 k) (G106 k) (G107 k) ret0 p1 n2 n3 p4 h5
end
mutual
theorem S107:∀ k,Snd Try.prog 107 f107_I f107_O (fun x ret=>G107 k x.1 x.2.1 x.2.2.1 x.2.2.2.1 x.2.2.2.2 (fun y0 y1 y2=>ret (y0,y1,y2)))
 | 0=>snd_none
 | k+1=>snd_step (E:=f107_E k (G91 k) (G105 k) (G112 k)) rfl laidOut noNums (orc_ok (S91 k).o f91_D_ok (orc_ok (S105 k).o f105_D_ok (orc_ok (S112 k).o f112_D_ok orc0_ok))) (f:=107) (fn:=Try.f107) (code:=f107_code) Try.func107 (by kernel_rfl) (drawsOk_of laidOut (orc_ok (S91 k).o f91_D_ok (orc_ok (S105 k).o f105_D_ok (orc_ok (S112 k).o f112_D_ok orc0_ok))) mixed (by kernel_rfl)) f107_un f107_un_ok [1000000000000] (fun _=>rfl)
   (fun x ret=>f107_eq k (G91 k) (G105 k) (G112 k) ret x.1 x.2.1 x.2.2.1 x.2.2.2.1 x.2.2.2.2)
theorem S106:∀ k,Snd Try.prog 106 f106_I f106_O (fun x ret=>G106 k x.1 x.2.1 x.2.2.1 x.2.2.2.1 x.2.2.2.2.1 x.2.2.2.2.2 (fun y0 y1 y2=>ret (y0,y1,y2)))
 | 0=>snd_none
 | k+1=>snd_step (E:=f106_E k (G91 k)) rfl laidOut noNums (orc_ok (S91 k).o f91_D_ok orc0_ok) (f:=106) (fn:=Try.f106) (code:=f106_code) Try.func106 (by kernel_rfl) (drawsOk_of laidOut (orc_ok (S91 k).o f91_D_ok orc0_ok) mixed (by kernel_rfl)) f106_un f106_un_ok [1000000000000] (fun _=>rfl)
   (fun x ret=>f106_eq k (G91 k) ret x.1 x.2.1 x.2.2.1 x.2.2.2.1 x.2.2.2.2.1 x.2.2.2.2.2)
theorem S91:∀ k,Snd Try.prog 91 f91_I f91_O (fun x ret=>G91 k x.1 x.2.1 x.2.2.1 x.2.2.2.1 x.2.2.2.2 (fun y0 y1 y2=>ret (y0,y1,y2)))
 | 0=>snd_none
 | k+1=>snd_step (E:=f91_E k (G76 k) (G91 k) (G105 k) (G106 k) (G107 k)) rfl laidOut noNums (orc_ok (S76 k).o f76_D_ok (orc_ok (S91 k).o f91_D_ok (orc_ok (S105 k).o f105_D_ok (orc_ok (S106 k).o f106_D_ok (orc_ok (S107 k).o f107_D_ok orc0_ok))))) (f:=91) (fn:=Try.f91) (code:=f91_code) Try.func91 (by kernel_rfl) (drawsOk_of laidOut (orc_ok (S76 k).o f76_D_ok (orc_ok (S91 k).o f91_D_ok (orc_ok (S105 k).o f105_D_ok (orc_ok (S106 k).o f106_D_ok (orc_ok (S107 k).o f107_D_ok orc0_ok))))) mixed (by kernel_rfl)) f91_un f91_un_ok [1000000000000] (fun _=>rfl)
   (fun x ret=>f91_eq k (G76 k) (G91 k) (G105 k) (G106 k) (G107 k) ret x.1 x.2.1 x.2.2.1 x.2.2.2.1 x.2.2.2.2)
end

noncomputable def f64_I:PV × PV × Bool→List SV × Obs:=fun x=>([.val 28 x.1,.val 36 x.2.1,.bool x.2.2],[])
noncomputable def f64_D:List SV→Obs→Option (PV × PV × Bool)
 | [.val 28 p1,.val 36 p2,.bool b3],[]=>some (p1,p2,b3)
 | _,_=>none
theorem f64_D_ok (args:List SV)(B:Obs)(x:PV × PV × Bool)(h:f64_D args B=some x):f64_I x=(args,B):=by
 unfold f64_D at h
 split at h
 ·injection h with h;subst h;rfl
 ·cases h
noncomputable def f64_O:Int × PV × Int→Out:=(fun y=>([.int .i64 y.1,.val 39 y.2.1,.int .i64 y.2.2],[]))
noncomputable def f64_un:Out→Option (Int × PV × Int)
 | ([.int .i64 y0,.val 39 y1,.int .i64 y2],[])=>some (y0,y1,y2)
 | _=>none
theorem f64_un_ok (o:Out)(y:Int × PV × Int)(h:f64_un o=some y):o=f64_O y:=by
 unfold f64_un at h
 split at h
 ·injection h with h;subst h;rfl
 ·cases h
noncomputable def f64_msk:Nat→Option (List Nat):=fun key=>bif key==27 then some [1,2,7,11,12,45,46] else none
noncomputable def f64_C (c50:Chb_6)(c89:Chb_7)(c90:Chb_8)(c91:Chb_1):Oracle:=orc 50 f50_D f50_O (fun x ret=>c50 x.1 x.2.1 x.2.2 (fun y0 y1=>ret (y0,y1))) <| orc 89 f89_D f89_O (fun x ret=>c89 x.1 x.2.1 x.2.2.1 x.2.2.2 (fun y0 y1 y2=>ret (y0,y1,y2))) <| orc 90 f90_D f90_O (fun x ret=>c90 x.1 x.2 (fun y0 y1=>ret (y0,y1))) <| orc 91 f91_D f91_O (fun x ret=>c91 x.1 x.2.1 x.2.2.1 x.2.2.2.1 x.2.2.2.2 (fun y0 y1 y2=>ret (y0,y1,y2))) <| orc0
noncomputable def f64_E (k:Nat)(c50:Chb_6)(c89:Chb_7)(c90:Chb_8)(c91:Chb_1):Env:={ P:=Try.prog,nilOwn:=fun d=>false,fldOwn:=fun d i=>false,ownPar:=ownPars,ownRet:=false,hpD:=fun d=>d==38 || d==39 || d==43,hpF:=hpFs,hpNew:=true,mask:=f64_msk,fuel:=k,C:=f64_C c50 c89 c90 c91 }
noncomputable def f64_code:Code:=Try.f64.body.getD .skip
noncomputable def f64_cw1:Code:=subC f64_code [1,1,1,1,1,0,1,0,0]
noncomputable def f64_hw1_0 (p2:PV)(b3:Bool)(h10:List HE)(h11:List HE)(n19:Int)(h20:List HE):St:=⟨[.dead,.val 36 p2,.bool b3,.dead,.dead,.dead,.dead,.ptr 7 [],.dead,.dead,.dead,.hptr 142 (List.length h10) [],.hval 143 (PV.rs (List.length h11) ((IntKind.wrap .i64 ((List.length (PV.els p2):Int)+(1:Int)))).toNat),.dead,.dead,.dead,.dead,.dead,.dead,.dead,.dead,.dead,.dead,.dead,.dead,.dead,.dead,.dead,.dead,.dead,.dead,.dead,.dead,.dead,.dead,.dead,.dead,.dead,.dead,.dead,.dead,.dead,.dead,.dead,.dead,.int .i64 (((IntKind.wrap .i64 ((List.length (PV.els p2):Int)+(1:Int)))).toNat:Int),.int .i64 n19,.dead,.dead,.dead,.dead,.dead,.dead,.dead,.dead,.dead,.dead,.dead,.dead,.dead,.dead,.dead,.dead,.dead,.dead,.dead,.dead,.dead,.dead],[(7,.box 39 (.val 39 (PV.agg [(PV.int 0),(PV.int 0),(PV.list [])]))),(1000000000000,.hp h20)]⟩
noncomputable def f64_w1A (k:Nat)(c50:Chb_6)(c89:Chb_7)(c90:Chb_8)(c91:Chb_1)(retF:Int × PV × Int→R)(p2:PV)(b3:Bool)(h10:List HE)(h11:List HE)(n19:Int)(h20:List HE):R:=loopM (f64_E k c50 c89 c90 c91) f64_cw1 (kont (f64_E k c50 c89 c90 c91) f64_code [1,1,1,1,1,0,1,0] (endK (f64_E k c50 c89 c90 c91) Try.f64 [] f64_un retF)) k (f64_hw1_0 p2 b3 h10 h11 n19 h20)
noncomputable def f64_w1b0 (c50:Chb_6)(c89:Chb_7)(c90:Chb_8)(c91:Chb_1)(ret0:Int→PV→Int→R)(next_w1_0:Int→(List HE)→R)(p2:PV)(b3:Bool)(h10:List HE)(h11:List HE)(n19:Int)(h20:List HE):R :=
 bif (decide (n19 < (((IntKind.wrap .i64 ((List.length (PV.els p2):Int)+(1:Int)))).toNat:Int))) then
 bif ((!b3)==false) then
 bif (true&&decide ((0:Int)≤n19)&&decide (n19 < (((IntKind.wrap .i64 ((List.length (PV.els p2):Int)+(1:Int)))).toNat:Int))) then
 bif (true&&(hokR h20 4 (List.length h11) n19)) then
 let h21:List HE:=(List.set h20 (List.length h11) (HE.row 4 (List.set (hrowOf h20 (List.length h11)) (n19).toNat (PV.bool (decide (n19=(List.length (PV.els p2):Int)))))))
 next_w1_0 (IntKind.wrap .i64 (n19+(1:Int))) h21
 else none
 else none
 else bif (true&&decide ((0:Int)≤n19)&&decide (n19 < (((IntKind.wrap .i64 ((List.length (PV.els p2):Int)+(1:Int)))).toNat:Int))) then
 bif (true&&(hokR h20 4 (List.length h11) n19)) then
 let h22:List HE:=(List.set h20 (List.length h11) (HE.row 4 (List.set (hrowOf h20 (List.length h11)) (n19).toNat (PV.bool true))))
 next_w1_0 (IntKind.wrap .i64 (n19+(1:Int))) h22
 else none
 else none
 else c91 (PV.rp (List.length h10)) 0 0 (PV.rs (List.length h11) ((IntKind.wrap .i64 ((List.length (PV.els p2):Int)+(1:Int)))).toNat) h20 fun p23 n24 h25 =>
 ret0 n24 p23 0

theorem f64_w1b0_mem (k:Nat)(c50:Chb_6)(c89:Chb_7)(c90:Chb_8)(c91:Chb_1)(retF:Int × PV × Int→R)(NX_w1:St→R)(p2:PV)(b3:Bool)(h10:List HE)(h11:List HE)(n19:Int)(h20:List HE):exec (f64_E k c50 c89 c90 c91) f64_cw1 (purgeK (f64_E k c50 c89 c90 c91) f64_cw1 (loopK NX_w1 (kont (f64_E k c50 c89 c90 c91) f64_code [1,1,1,1,1,0,1,0] (endK (f64_E k c50 c89 c90 c91) Try.f64 [] f64_un retF)))) (f64_hw1_0 p2 b3 h10 h11 n19 h20)=f64_w1b0 c50 c89 c90 c91 (fun y0 y1 y2=>retF (y0,y1,y2)) (fun n19 h20=>NX_w1 (f64_hw1_0 p2 b3 h10 h11 n19 h20)) p2 b3 h10 h11 n19 h20:=by kernel_rfl

noncomputable def f64_w1b0N (k:Nat)(c50:Chb_6)(c89:Chb_7)(c90:Chb_8)(c91:Chb_1)(ret0:Int→PV→Int→R)(next_w1_0:Int→(List HE)→R)(p2:PV)(b3:Bool)(h10:List HE)(h11:List HE)(n19:Int)(h20:List HE):R :=
 f64_w1b0 c50 c89 c90 c91 ret0 next_w1_0 p2 b3 h10 h11 n19 h20
theorem f64_w1b0_eq (k:Nat)(c50:Chb_6)(c89:Chb_7)(c90:Chb_8)(c91:Chb_1)(retF:Int × PV × Int→R)(NX_w1:St→R)(p2:PV)(b3:Bool)(h10:List HE)(h11:List HE)(n19:Int)(h20:List HE):exec (f64_E k c50 c89 c90 c91) f64_cw1 (purgeK (f64_E k c50 c89 c90 c91) f64_cw1 (loopK NX_w1 (kont (f64_E k c50 c89 c90 c91) f64_code [1,1,1,1,1,0,1,0] (endK (f64_E k c50 c89 c90 c91) Try.f64 [] f64_un retF)))) (f64_hw1_0 p2 b3 h10 h11 n19 h20)=f64_w1b0N k c50 c89 c90 c91 (fun y0 y1 y2=>retF (y0,y1,y2)) (fun n19 h20=>NX_w1 (f64_hw1_0 p2 b3 h10 h11 n19 h20)) p2 b3 h10 h11 n19 h20 :=
 (f64_w1b0_mem k c50 c89 c90 c91 retF NX_w1 p2 b3 h10 h11 n19 h20)

noncomputable def f64_w1B (k:Nat)(c50:Chb_6)(c89:Chb_7)(c90:Chb_8)(c91:Chb_1)(ret0:Int→PV→Int→R)(p2:PV)(b3:Bool)(h10:List HE)(h11:List HE)(nx:Int × (List HE)→R):Int × (List HE)→R:=(fun s=>f64_w1b0N k c50 c89 c90 c91 ret0 (fun n19 h20=>nx (n19,h20)) p2 b3 h10 h11 s.1 s.2)
noncomputable def f64_w1N (k:Nat)(c50:Chb_6)(c89:Chb_7)(c90:Chb_8)(c91:Chb_1)(ret0:Int→PV→Int→R)(p2:PV)(b3:Bool)(h10:List HE)(h11:List HE)(n19:Int)(h20:List HE):R:=loopR (f64_w1B k c50 c89 c90 c91 ret0 p2 b3 h10 h11) k (n19,h20)
theorem f64_w1_eq (k:Nat)(c50:Chb_6)(c89:Chb_7)(c90:Chb_8)(c91:Chb_1)(retF:Int × PV × Int→R)(p2:PV)(b3:Bool)(h10:List HE)(h11:List HE)(n19:Int)(h20:List HE):f64_w1A k c50 c89 c90 c91 retF p2 b3 h10 h11 n19 h20=f64_w1N k c50 c89 c90 c91 (fun y0 y1 y2=>retF (y0,y1,y2)) p2 b3 h10 h11 n19 h20 :=
 Eq.mp (by kernel_rfl) (loop_sim (E:=(f64_E k c50 c89 c90 c91)) (c:=f64_cw1) (K:=(kont (f64_E k c50 c89 c90 c91) f64_code [1,1,1,1,1,0,1,0] (endK (f64_E k c50 c89 c90 c91) Try.f64 [] f64_un retF))) (S:=Int × (List HE)) (fun s=>f64_hw1_0 p2 b3 h10 h11 s.1 s.2) (f64_w1B k c50 c89 c90 c91 (fun y0 y1 y2=>retF (y0,y1,y2)) p2 b3 h10 h11) (fun NX s=>by
  exact Eq.mp (by kernel_rfl) (f64_w1b0_eq k c50 c89 c90 c91 retF NX p2 b3 h10 h11 s.1 s.2)) k (n19,h20))

noncomputable def f64_e (c50:Chb_6)(c89:Chb_7)(c90:Chb_8)(c91:Chb_1)(ret0:Int→PV→Int→R)(w1:(List HE)→(List HE)→Int→(List HE)→R)(p1:PV)(p2:PV)(b3:Bool):R :=
 c89 p1 p2 b3 ([]:List HE) fun p4 n5 h6 =>
 bif (!(decide (n5=(0:Int)))) then
 ret0 0 (PV.agg [(PV.int 0),(PV.int 0),(PV.list [])]) n5
 else c90 p4 h6 fun b7 h8 =>
 bif (!b7) then
 ret0 0 (PV.agg [(PV.int 0),(PV.int 0),(PV.list [])]) 5
 else c50 p1 p2 h8 fun p9 h10 =>
 let h11:List HE:=(h10++[HE.var 142 (PV.agg [p9,(PV.int (List.length (PV.els p2):Int))])])
 bif (true&&(true&&decide ((0:Int)≤(IntKind.wrap .i64 ((List.length (PV.els p2):Int)+(1:Int))))&&decide ((IntKind.wrap .i64 ((List.length (PV.els p2):Int)+(1:Int)))=(IntKind.wrap .i64 ((List.length (PV.els p2):Int)+(1:Int))))&&roomy ((IntKind.wrap .i64 ((List.length (PV.els p2):Int)+(1:Int)))).toNat 1)) then
 let h12:List HE:=(h11++[HE.row 4 (List.replicate ((IntKind.wrap .i64 ((List.length (PV.els p2):Int)+(1:Int)))).toNat (PV.bool false))])
 w1 h10 h11 0 h12
 else none

theorem f64_e_mem (k:Nat)(c50:Chb_6)(c89:Chb_7)(c90:Chb_8)(c91:Chb_1)(retF:Int × PV × Int→R)(p1:PV)(p2:PV)(b3:Bool):exec (f64_E k c50 c89 c90 c91) f64_code (endK (f64_E k c50 c89 c90 c91) Try.f64 [] f64_un retF) ⟨[.val 28 p1,.val 36 p2,.bool b3,.undef,.undef,.undef,.undef,.undef,.undef,.undef,.undef,.undef,.undef,.undef,.undef,.undef,.undef,.undef,.undef,.undef,.undef,.undef,.undef,.undef,.undef,.undef,.undef,.undef,.undef,.undef,.undef,.undef,.undef,.undef,.undef,.undef,.undef,.undef,.undef,.undef,.undef,.undef,.undef,.undef,.undef,.undef,.undef,.undef,.undef,.undef,.undef,.undef,.undef,.undef,.undef,.undef,.undef,.undef,.undef,.undef,.undef,.undef,.undef,.undef,.undef,.undef,.undef,.undef,.undef],[(1000000000000,.hp ([]:List HE))]⟩=f64_e c50 c89 c90 c91 (fun y0 y1 y2=>retF (y0,y1,y2)) (fun h10 h11 n19 h20=>f64_w1A k c50 c89 c90 c91 retF p2 b3 h10 h11 n19 h20) p1 p2 b3:=by kernel_rfl

noncomputable def f64_N (k:Nat)(c50:Chb_6)(c89:Chb_7)(c90:Chb_8)(c91:Chb_1)(ret0:Int→PV→Int→R)(p1:PV)(p2:PV)(b3:Bool):R :=
 f64_e c50 c89 c90 c91 ret0 (fun h10 h11 n19 h20=>f64_w1N k c50 c89 c90 c91 ret0 p2 b3 h10 h11 n19 h20) p1 p2 b3
theorem f64_eq (k:Nat)(c50:Chb_6)(c89:Chb_7)(c90:Chb_8)(c91:Chb_1)(retF:Int × PV × Int→R)(p1:PV)(p2:PV)(b3:Bool):exec (f64_E k c50 c89 c90 c91) f64_code (endK (f64_E k c50 c89 c90 c91) Try.f64 [] f64_un retF) ⟨[.val 28 p1,.val 36 p2,.bool b3,.undef,.undef,.undef,.undef,.undef,.undef,.undef,.undef,.undef,.undef,.undef,.undef,.undef,.undef,.undef,.undef,.undef,.undef,.undef,.undef,.undef,.undef,.undef,.undef,.undef,.undef,.undef,.undef,.undef,.undef,.undef,.undef,.undef,.undef,.undef,.undef,.undef,.undef,.undef,.undef,.undef,.undef,.undef,.undef,.undef,.undef,.undef,.undef,.undef,.undef,.undef,.undef,.undef,.undef,.undef,.undef,.undef,.undef,.undef,.undef,.undef,.undef,.undef,.undef,.undef,.undef],[(1000000000000,.hp ([]:List HE))]⟩=f64_N k c50 c89 c90 c91 (fun y0 y1 y2=>retF (y0,y1,y2)) p1 p2 b3 :=
 (f64_e_mem k c50 c89 c90 c91 retF p1 p2 b3).trans (by rw [show (fun h10 h11 n19 h20=>f64_w1A k c50 c89 c90 c91 retF p2 b3 h10 h11 n19 h20)=(fun h10 h11 n19 h20=>f64_w1N k c50 c89 c90 c91 (fun y0 y1 y2=>retF (y0,y1,y2)) p2 b3 h10 h11 n19 h20) from funext fun h10=>funext fun h11=>funext fun n19=>funext fun h20=>f64_w1_eq k c50 c89 c90 c91 retF p2 b3 h10 h11 n19 h20];rfl)

noncomputable def G64:Nat→PV→PV→Bool→(Int→PV→Int→R)→R
 | 0,_,_,_,_=>none
 | k+1,p1,p2,b3,ret0=>f64_N k (G50 k) (G89 k) (G90 k) (G91 k) ret0 p1 p2 b3
theorem S64:∀ k,Snd Try.prog 64 f64_I f64_O (fun x ret=>G64 k x.1 x.2.1 x.2.2 (fun y0 y1 y2=>ret (y0,y1,y2)))
 | 0=>snd_none
 | k+1=>snd_step (E:=f64_E k (G50 k) (G89 k) (G90 k) (G91 k)) rfl laidOut noNums (orc_ok (S50 k).o f50_D_ok (orc_ok (S89 k).o f89_D_ok (orc_ok (S90 k).o f90_D_ok (orc_ok (S91 k).o f91_D_ok orc0_ok)))) (f:=64) (fn:=Try.f64) (code:=f64_code) Try.func64 (by kernel_rfl) (drawsOk_of laidOut (orc_ok (S50 k).o f50_D_ok (orc_ok (S89 k).o f89_D_ok (orc_ok (S90 k).o f90_D_ok (orc_ok (S91 k).o f91_D_ok orc0_ok)))) mixed (by kernel_rfl)) f64_un f64_un_ok [] (fun _=>rfl)
   (fun x ret=>f64_eq k (G50 k) (G89 k) (G90 k) (G91 k) ret x.1 x.2.1 x.2.2)

noncomputable def f40_I:PV × PV→List SV × Obs:=fun x=>([.val 28 x.1,.val 36 x.2],[])
noncomputable def f40_D:List SV→Obs→Option (PV × PV)
 | [.val 28 p1,.val 36 p2],[]=>some (p1,p2)
 | _,_=>none
theorem f40_D_ok (args:List SV)(B:Obs)(x:PV × PV)(h:f40_D args B=some x):f40_I x=(args,B):=by
 unfold f40_D at h
 split at h
 ·injection h with h;subst h;rfl
 ·cases h
noncomputable def f40_O:Int × PV × Int→Out:=(fun y=>([.int .i64 y.1,.val 39 y.2.1,.int .i64 y.2.2],[]))
noncomputable def f40_un:Out→Option (Int × PV × Int)
 | ([.int .i64 y0,.val 39 y1,.int .i64 y2],[])=>some (y0,y1,y2)
 | _=>none
theorem f40_un_ok (o:Out)(y:Int × PV × Int)(h:f40_un o=some y):o=f40_O y:=by
 unfold f40_un at h
 split at h
 ·injection h with h;subst h;rfl
 ·cases h
noncomputable def f40_msk:Nat→Option (List Nat):=fun key=> none
noncomputable def f40_C (c64:Chb_9):Oracle:=orc 64 f64_D f64_O (fun x ret=>c64 x.1 x.2.1 x.2.2 (fun y0 y1 y2=>ret (y0,y1,y2))) <| orc0
noncomputable def f40_E (k:Nat)(c64:Chb_9):Env:={ P:=Try.prog,nilOwn:=fun d=>false,fldOwn:=fun d i=>false,ownPar:=ownPars,ownRet:=false,hpD:=fun d=>false,hpF:=hpFs,hpNew:=false,mask:=f40_msk,fuel:=k,C:=f40_C c64 }
noncomputable def f40_code:Code:=Try.f40.body.getD .skip
noncomputable def f40_e (c64:Chb_9)(ret0:Int→PV→Int→R)(p1:PV)(p2:PV):R :=
 c64 p1 p2 false fun n3 p4 n5 =>
 ret0 n3 p4 n5

theorem f40_e_mem (k:Nat)(c64:Chb_9)(retF:Int × PV × Int→R)(p1:PV)(p2:PV):exec (f40_E k c64) f40_code (endK (f40_E k c64) Try.f40 [] f40_un retF) ⟨[.val 28 p1,.val 36 p2,.undef,.undef,.undef,.undef,.undef,.undef,.undef,.undef,.undef,.undef,.undef],[]⟩=f40_e c64 (fun y0 y1 y2=>retF (y0,y1,y2)) p1 p2:=by kernel_rfl

noncomputable def f40_N (k:Nat)(c64:Chb_9)(ret0:Int→PV→Int→R)(p1:PV)(p2:PV):R :=
 f40_e c64 ret0 p1 p2
theorem f40_eq (k:Nat)(c64:Chb_9)(retF:Int × PV × Int→R)(p1:PV)(p2:PV):exec (f40_E k c64) f40_code (endK (f40_E k c64) Try.f40 [] f40_un retF) ⟨[.val 28 p1,.val 36 p2,.undef,.undef,.undef,.undef,.undef,.undef,.undef,.undef,.undef,.undef,.undef],[]⟩=f40_N k c64 (fun y0 y1 y2=>retF (y0,y1,y2)) p1 p2 :=
 (f40_e_mem k c64 retF p1 p2)

noncomputable def G40:Nat→PV→PV→(Int→PV→Int→R)→R
 | 0,_,_,_=>none
 | k+1,p1,p2,ret0=>f40_N k (G64 k) ret0 p1 p2
theorem S40:∀ k,Snd Try.prog 40 f40_I f40_O (fun x ret=>G40 k x.1 x.2 (fun y0 y1 y2=>ret (y0,y1,y2)))
 | 0=>snd_none
 | k+1=>snd_step (E:=f40_E k (G64 k)) rfl laidOut noNums (orc_ok (S64 k).o f64_D_ok orc0_ok) (f:=40) (fn:=Try.f40) (code:=f40_code) Try.func40 (by kernel_rfl) (drawsOk_of laidOut (orc_ok (S64 k).o f64_D_ok orc0_ok) mixed (by kernel_rfl)) f40_un f40_un_ok [] (fun _=>rfl)
   (fun x ret=>f40_eq k (G64 k) ret x.1 x.2)

noncomputable def f99_I:PV × (List PV)→List SV × Obs:=fun x=>([.ptr 2000000 []],[(2000000,.box 97 (.agg 97 [.val 95 x.1,.own 36 2000001])),(2000001,.row 5 x.2)])
noncomputable def f99_D:List SV→Obs→Option (PV × (List PV))
 | [.ptr 2000000 []],[(2000000,.box 97 (.agg 97 [.val 95 p1,.own 36 2000001])),(2000001,.row 5 l2)]=>some (p1,l2)
 | _,_=>none
theorem f99_D_ok (args:List SV)(B:Obs)(x:PV × (List PV))(h:f99_D args B=some x):f99_I x=(args,B):=by
 unfold f99_D at h
 split at h
 ·injection h with h;subst h;rfl
 ·cases h
noncomputable def f99_O:(List PV)→Out:=(fun y=>([],[(2000000,.box 97 (.agg 97 [.ptr 2000000 [],.own 36 2000001])),(2000001,.row 5 y)]))
noncomputable def f99_un:Out→Option ((List PV))
 | ([],[(2000000,.box 97 (.agg 97 [.ptr 2000000 [],.own 36 2000001])),(2000001,.row 5 y0)])=>some y0
 | _=>none
noncomputable def G99:Nat→PV→(List PV)→((List PV)→R)→R
 | _,p,l,ret0=>bif PV.isNil p then ret0 l else none
theorem S99:∀ k,SndO Try.prog 99 f99_I f99_O (fun x ret=>G99 k x.1 x.2 (fun y0=>ret y0)):=fun k=>Bld.fresh

noncomputable def f79_I:(List Int) × PV × (List PV)→List SV × Obs:=fun x=>([.ptr 2000000 [],.str x.1],[(2000000,.box 97 (.agg 97 [.val 95 x.2.1,.own 36 2000001])),(2000001,.row 5 x.2.2)])
noncomputable def f79_D:List SV→Obs→Option ((List Int) × PV × (List PV))
 | [.ptr 2000000 [],.str s1],[(2000000,.box 97 (.agg 97 [.val 95 p2,.own 36 2000001])),(2000001,.row 5 l3)]=>some (s1,p2,l3)
 | _,_=>none
theorem f79_D_ok (args:List SV)(B:Obs)(x:(List Int) × PV × (List PV))(h:f79_D args B=some x):f79_I x=(args,B):=by
 unfold f79_D at h
 split at h
 ·injection h with h;subst h;rfl
 ·cases h
noncomputable def f79_O:Int × PV × (List PV)→Out:=(fun y=>([.int .i64 y.1,.val 128 y.2.1],[(2000000,.box 97 (.agg 97 [.ptr 2000000 [],.own 36 2000001])),(2000001,.row 5 y.2.2)]))
noncomputable def f79_un:Out→Option (Int × PV × (List PV))
 | ([.int .i64 y0,.val 128 y1],[(2000000,.box 97 (.agg 97 [.ptr 2000000 [],.own 36 2000001])),(2000001,.row 5 y2)])=>some (y0,y1,y2)
 | _=>none
theorem f79_un_ok (o:Out)(y:Int × PV × (List PV))(h:f79_un o=some y):o=f79_O y:=by
 unfold f79_un at h
 split at h
 ·injection h with h;subst h;rfl
 ·cases h
noncomputable def f79_msk:Nat→Option (List Nat):=fun key=> none
noncomputable def f79_C (c99:Chb_10):Oracle:=orc 99 f99_D f99_O (fun x ret=>c99 x.1 x.2 (fun y0=>ret y0)) <| orc0
noncomputable def f79_E (k:Nat)(c99:Chb_10):Env:={ P:=Try.prog,nilOwn:=fun d=>false,fldOwn:=fun d i=>false,ownPar:=ownPars,ownRet:=false,hpD:=fun d=>false,hpF:=hpFs,hpNew:=false,mask:=f79_msk,fuel:=k,C:=f79_C c99 }
noncomputable def f79_code:Code:=Try.f79.body.getD .skip
noncomputable def f79_e (c99:Chb_10)(ret0:Int→PV→(List PV)→R)(s1:List Int)(p2:PV)(l3:List PV):R :=
 c99 p2 l3 fun l4 =>
 bif (true&&roomy (List.length l4+List.length (List.map PV.int s1)) 1) then
 ret0 (List.length s1:Int) PV.nil (l4++(List.map PV.int s1))
 else none

theorem f79_e_mem (k:Nat)(c99:Chb_10)(retF:Int × PV × (List PV)→R)(s1:List Int)(p2:PV)(l3:List PV):exec (f79_E k c99) f79_code (endK (f79_E k c99) Try.f79 [2000000,2000001] f79_un retF) ⟨[.ptr 2000000 [],.str s1,.undef,.undef,.undef,.undef,.undef,.undef,.undef,.undef,.undef,.undef,.undef,.undef,.undef,.undef,.undef,.undef,.undef],[(2000000,.box 97 (.agg 97 [.val 95 p2,.own 36 2000001])),(2000001,.row 5 l3)]⟩=f79_e c99 (fun y0 y1 y2=>retF (y0,y1,y2)) s1 p2 l3:=by kernel_rfl

noncomputable def f79_N (k:Nat)(c99:Chb_10)(ret0:Int→PV→(List PV)→R)(s1:List Int)(p2:PV)(l3:List PV):R :=
 f79_e c99 ret0 s1 p2 l3
theorem f79_eq (k:Nat)(c99:Chb_10)(retF:Int × PV × (List PV)→R)(s1:List Int)(p2:PV)(l3:List PV):exec (f79_E k c99) f79_code (endK (f79_E k c99) Try.f79 [2000000,2000001] f79_un retF) ⟨[.ptr 2000000 [],.str s1,.undef,.undef,.undef,.undef,.undef,.undef,.undef,.undef,.undef,.undef,.undef,.undef,.undef,.undef,.undef,.undef,.undef],[(2000000,.box 97 (.agg 97 [.val 95 p2,.own 36 2000001])),(2000001,.row 5 l3)]⟩=f79_N k c99 (fun y0 y1 y2=>retF (y0,y1,y2)) s1 p2 l3 :=
 (f79_e_mem k c99 retF s1 p2 l3)

noncomputable def G79:Nat→(List Int)→PV→(List PV)→(Int→PV→(List PV)→R)→R
 | 0,_,_,_,_=>none
 | k+1,s1,p2,l3,ret0=>f79_N k (G99 k) ret0 s1 p2 l3
theorem S79:∀ k,Snd Try.prog 79 f79_I f79_O (fun x ret=>G79 k x.1 x.2.1 x.2.2 (fun y0 y1 y2=>ret (y0,y1,y2)))
 | 0=>snd_none
 | k+1=>snd_step (E:=f79_E k (G99 k)) rfl laidOut noNums (orc_ok (S99 k).o f99_D_ok orc0_ok) (f:=79) (fn:=Try.f79) (code:=f79_code) Try.func79 (by kernel_rfl) (drawsOk_of laidOut (orc_ok (S99 k).o f99_D_ok orc0_ok) mixed (by kernel_rfl)) f79_un f79_un_ok [2000000,2000001] (fun _=>rfl)
   (fun x ret=>f79_eq k (G99 k) ret x.1 x.2.1 x.2.2)

noncomputable def f80_I:PV→List SV × Obs:=fun x=>([.val 39 x],[])
noncomputable def f80_D:List SV→Obs→Option (PV)
 | [.val 39 p1],[]=>some p1
 | _,_=>none
theorem f80_D_ok (args:List SV)(B:Obs)(x:PV)(h:f80_D args B=some x):f80_I x=(args,B):=by
 unfold f80_D at h
 split at h
 ·injection h with h;subst h;rfl
 ·cases h
noncomputable def f80_O:PV→Out:=(fun y=>([.val 37 y],[]))
noncomputable def f80_un:Out→Option (PV)
 | ([.val 37 y0],[])=>some y0
 | _=>none
theorem f80_un_ok (o:Out)(y:PV)(h:f80_un o=some y):o=f80_O y:=by
 unfold f80_un at h
 split at h
 ·injection h with h;subst h;rfl
 ·cases h
noncomputable def f80_msk:Nat→Option (List Nat):=fun key=> none
noncomputable def f80_C:Oracle:=orc0
noncomputable def f80_E (k:Nat):Env:={ P:=Try.prog,nilOwn:=fun d=>false,fldOwn:=fun d i=>false,ownPar:=ownPars,ownRet:=false,hpD:=fun d=>false,hpF:=hpFs,hpNew:=false,mask:=f80_msk,fuel:=k,C:=f80_C }
noncomputable def f80_code:Code:=Try.f80.body.getD .skip
noncomputable def f80_e (ret0:PV→R)(p1:PV):R :=
 bif (decide ((PV.num (PV.fld p1 0))=(3:Int))) then
 let n2:Int:=(if (List.length (PV.els (PV.fld p1 2)):Int) < (2:Int) then (List.length (PV.els (PV.fld p1 2)):Int) else 2)
 bif (decide ((0:Int)≤(0:Int))&&decide ((0:Int)≤n2)&&decide (n2≤(List.length (PV.els (PV.fld p1 2)):Int))) then
 ret0 (PV.list (List.drop ((0:Int)).toNat (List.take (n2).toNat (PV.els (PV.fld p1 2)))))
 else none
 else bif (decide ((PV.num (PV.fld p1 0))=(4:Int))) then
 let n3:Int:=(if (List.length (PV.els (PV.fld p1 2)):Int) < (1:Int) then (List.length (PV.els (PV.fld p1 2)):Int) else 1)
 bif (decide ((0:Int)≤(0:Int))&&decide ((0:Int)≤n3)&&decide (n3≤(List.length (PV.els (PV.fld p1 2)):Int))) then
 ret0 (PV.list (List.drop ((0:Int)).toNat (List.take (n3).toNat (PV.els (PV.fld p1 2)))))
 else none
 else bif (decide ((PV.num (PV.fld p1 0))=(5:Int))) then
 let n4:Int:=(if (List.length (PV.els (PV.fld p1 2)):Int) < (1:Int) then (List.length (PV.els (PV.fld p1 2)):Int) else 1)
 bif (decide ((0:Int)≤(0:Int))&&decide ((0:Int)≤n4)&&decide (n4≤(List.length (PV.els (PV.fld p1 2)):Int))) then
 ret0 (PV.list (List.drop ((0:Int)).toNat (List.take (n4).toNat (PV.els (PV.fld p1 2)))))
 else none
 else bif (decide ((PV.num (PV.fld p1 0))=(7:Int))) then
 let n5:Int:=(if (List.length (PV.els (PV.fld p1 2)):Int) < (1:Int) then (List.length (PV.els (PV.fld p1 2)):Int) else 1)
 bif (decide ((0:Int)≤(0:Int))&&decide ((0:Int)≤n5)&&decide (n5≤(List.length (PV.els (PV.fld p1 2)):Int))) then
 ret0 (PV.list (List.drop ((0:Int)).toNat (List.take (n5).toNat (PV.els (PV.fld p1 2)))))
 else none
 else bif (decide ((PV.num (PV.fld p1 0))=(6:Int))) then
 let n6:Int:=(if (List.length (PV.els (PV.fld p1 2)):Int) < (List.length (PV.els (PV.fld p1 2)):Int) then (List.length (PV.els (PV.fld p1 2)):Int) else (List.length (PV.els (PV.fld p1 2)):Int))
 bif (decide ((0:Int)≤(0:Int))&&decide ((0:Int)≤n6)&&decide (n6≤(List.length (PV.els (PV.fld p1 2)):Int))) then
 ret0 (PV.list (List.drop ((0:Int)).toNat (List.take (n6).toNat (PV.els (PV.fld p1 2)))))
 else none
 else let n7:Int:=(if (List.length (PV.els (PV.fld p1 2)):Int) < (0:Int) then (List.length (PV.els (PV.fld p1 2)):Int) else 0)
 bif (decide ((0:Int)≤(0:Int))&&decide ((0:Int)≤n7)&&decide (n7≤(List.length (PV.els (PV.fld p1 2)):Int))) then
 ret0 (PV.list (List.drop ((0:Int)).toNat (List.take (n7).toNat (PV.els (PV.fld p1 2)))))
 else none

theorem f80_e_mem (k:Nat)(retF:PV→R)(p1:PV):exec (f80_E k) f80_code (endK (f80_E k) Try.f80 [] f80_un retF) ⟨[.val 39 p1,.undef,.undef,.undef,.undef,.undef,.undef,.undef,.undef,.undef,.undef,.undef,.undef,.undef,.undef,.undef,.undef,.undef,.undef,.undef,.undef,.undef,.undef,.undef,.undef],[]⟩=f80_e (fun y0=>retF y0) p1:=by kernel_rfl

noncomputable def f80_N (k:Nat)(ret0:PV→R)(p1:PV):R :=
 f80_e ret0 p1
theorem f80_eq (k:Nat)(retF:PV→R)(p1:PV):exec (f80_E k) f80_code (endK (f80_E k) Try.f80 [] f80_un retF) ⟨[.val 39 p1,.undef,.undef,.undef,.undef,.undef,.undef,.undef,.undef,.undef,.undef,.undef,.undef,.undef,.undef,.undef,.undef,.undef,.undef,.undef,.undef,.undef,.undef,.undef,.undef],[]⟩=f80_N k (fun y0=>retF y0) p1 :=
 (f80_e_mem k retF p1)

noncomputable def G80:Nat→PV→(PV→R)→R
 | 0,_,_=>none
 | k+1,p1,ret0=>f80_N k  ret0 p1
theorem S80:∀ k,Snd Try.prog 80 f80_I f80_O (fun x ret=>G80 k x (fun y0=>ret y0))
 | 0=>snd_none
 | k+1=>snd_step (E:=f80_E k ) rfl laidOut noNums orc0_ok (f:=80) (fn:=Try.f80) (code:=f80_code) Try.func80 (by kernel_rfl) (drawsOk_of laidOut orc0_ok mixed (by kernel_rfl)) f80_un f80_un_ok [] (fun _=>rfl)
   (fun x ret=>f80_eq k  ret x)

noncomputable def f99v1_I:(List PV)→List SV × Obs:=fun x=>([.ptr 2000000 []],[(2000000,.box 97 (.agg 97 [.ptr 2000000 [],.own 36 2000001])),(2000001,.row 5 x)])
noncomputable def f99v1_D:List SV→Obs→Option ((List PV))
 | [.ptr 2000000 []],[(2000000,.box 97 (.agg 97 [.ptr 2000000 [],.own 36 2000001])),(2000001,.row 5 l1)]=>some l1
 | _,_=>none
theorem f99v1_D_ok (args:List SV)(B:Obs)(x:(List PV))(h:f99v1_D args B=some x):f99v1_I x=(args,B):=by
 unfold f99v1_D at h
 split at h
 ·injection h with h;subst h;rfl
 ·cases h
noncomputable def f99v1_O:(List PV)→Out:=(fun y=>([],[(2000000,.box 97 (.agg 97 [.ptr 2000000 [],.own 36 2000001])),(2000001,.row 5 y)]))
noncomputable def f99v1_un:Out→Option ((List PV))
 | ([],[(2000000,.box 97 (.agg 97 [.ptr 2000000 [],.own 36 2000001])),(2000001,.row 5 y0)])=>some y0
 | _=>none
noncomputable def G99v1:Nat→(List PV)→((List PV)→R)→R
 | _,l,ret0=>ret0 l
theorem S99v1:∀ k,SndO Try.prog 99 f99v1_I f99v1_O (fun x ret=>G99v1 k x (fun y0=>ret y0)):=fun k=>Bld.used

noncomputable def f79v1_I:(List Int) × (List PV)→List SV × Obs:=fun x=>([.ptr 2000000 [],.str x.1],[(2000000,.box 97 (.agg 97 [.ptr 2000000 [],.own 36 2000001])),(2000001,.row 5 x.2)])
noncomputable def f79v1_D:List SV→Obs→Option ((List Int) × (List PV))
 | [.ptr 2000000 [],.str s1],[(2000000,.box 97 (.agg 97 [.ptr 2000000 [],.own 36 2000001])),(2000001,.row 5 l2)]=>some (s1,l2)
 | _,_=>none
theorem f79v1_D_ok (args:List SV)(B:Obs)(x:(List Int) × (List PV))(h:f79v1_D args B=some x):f79v1_I x=(args,B):=by
 unfold f79v1_D at h
 split at h
 ·injection h with h;subst h;rfl
 ·cases h
noncomputable def f79v1_O:Int × PV × (List PV)→Out:=(fun y=>([.int .i64 y.1,.val 128 y.2.1],[(2000000,.box 97 (.agg 97 [.ptr 2000000 [],.own 36 2000001])),(2000001,.row 5 y.2.2)]))
noncomputable def f79v1_un:Out→Option (Int × PV × (List PV))
 | ([.int .i64 y0,.val 128 y1],[(2000000,.box 97 (.agg 97 [.ptr 2000000 [],.own 36 2000001])),(2000001,.row 5 y2)])=>some (y0,y1,y2)
 | _=>none
theorem f79v1_un_ok (o:Out)(y:Int × PV × (List PV))(h:f79v1_un o=some y):o=f79v1_O y:=by
 unfold f79v1_un at h
 split at h
 ·injection h with h;subst h;rfl
 ·cases h
noncomputable def f79v1_msk:Nat→Option (List Nat):=fun key=> none
noncomputable def f79v1_C (c99v1:Chb_11):Oracle:=orc 99 f99v1_D f99v1_O (fun x ret=>c99v1 x (fun y0=>ret y0)) <| orc0
noncomputable def f79v1_E (k:Nat)(c99v1:Chb_11):Env:={ P:=Try.prog,nilOwn:=fun d=>false,fldOwn:=fun d i=>false,ownPar:=ownPars,ownRet:=false,hpD:=fun d=>false,hpF:=hpFs,hpNew:=false,mask:=f79v1_msk,fuel:=k,C:=f79v1_C c99v1 }
noncomputable def f79v1_code:Code:=Try.f79.body.getD .skip
noncomputable def f79v1_e (c99v1:Chb_11)(ret0:Int→PV→(List PV)→R)(s1:List Int)(l2:List PV):R :=
 c99v1 l2 fun l3 =>
 bif (true&&roomy (List.length l3+List.length (List.map PV.int s1)) 1) then
 ret0 (List.length s1:Int) PV.nil (l3++(List.map PV.int s1))
 else none

theorem f79v1_e_mem (k:Nat)(c99v1:Chb_11)(retF:Int × PV × (List PV)→R)(s1:List Int)(l2:List PV):exec (f79v1_E k c99v1) f79v1_code (endK (f79v1_E k c99v1) Try.f79 [2000000,2000001] f79v1_un retF) ⟨[.ptr 2000000 [],.str s1,.undef,.undef,.undef,.undef,.undef,.undef,.undef,.undef,.undef,.undef,.undef,.undef,.undef,.undef,.undef,.undef,.undef],[(2000000,.box 97 (.agg 97 [.ptr 2000000 [],.own 36 2000001])),(2000001,.row 5 l2)]⟩=f79v1_e c99v1 (fun y0 y1 y2=>retF (y0,y1,y2)) s1 l2:=by kernel_rfl

noncomputable def f79v1_N (k:Nat)(c99v1:Chb_11)(ret0:Int→PV→(List PV)→R)(s1:List Int)(l2:List PV):R :=
 f79v1_e c99v1 ret0 s1 l2
theorem f79v1_eq (k:Nat)(c99v1:Chb_11)(retF:Int × PV × (List PV)→R)(s1:List Int)(l2:List PV):exec (f79v1_E k c99v1) f79v1_code (endK (f79v1_E k c99v1) Try.f79 [2000000,2000001] f79v1_un retF) ⟨[.ptr 2000000 [],.str s1,.undef,.undef,.undef,.undef,.undef,.undef,.undef,.undef,.undef,.undef,.undef,.undef,.undef,.undef,.undef,.undef,.undef],[(2000000,.box 97 (.agg 97 [.ptr 2000000 [],.own 36 2000001])),(2000001,.row 5 l2)]⟩=f79v1_N k c99v1 (fun y0 y1 y2=>retF (y0,y1,y2)) s1 l2 :=
 (f79v1_e_mem k c99v1 retF s1 l2)

noncomputable def G79v1:Nat→(List Int)→(List PV)→(Int→PV→(List PV)→R)→R
 | 0,_,_,_=>none
 | k+1,s1,l2,ret0=>f79v1_N k (G99v1 k) ret0 s1 l2
theorem S79v1:∀ k,Snd Try.prog 79 f79v1_I f79v1_O (fun x ret=>G79v1 k x.1 x.2 (fun y0 y1 y2=>ret (y0,y1,y2)))
 | 0=>snd_none
 | k+1=>snd_step (E:=f79v1_E k (G99v1 k)) rfl laidOut noNums (orc_ok (S99v1 k).o f99v1_D_ok orc0_ok) (f:=79) (fn:=Try.f79) (code:=f79v1_code) Try.func79 (by kernel_rfl) (drawsOk_of laidOut (orc_ok (S99v1 k).o f99v1_D_ok orc0_ok) mixed (by kernel_rfl)) f79v1_un f79v1_un_ok [2000000,2000001] (fun _=>rfl)
   (fun x ret=>f79v1_eq k (G99v1 k) ret x.1 x.2)

noncomputable def f54v1_I:PV × (List PV)→List SV × Obs:=fun x=>([.ptr 2000000 [],.val 39 x.1],[(2000000,.box 97 (.agg 97 [.ptr 2000000 [],.own 36 2000001])),(2000001,.row 5 x.2)])
noncomputable def f54v1_D:List SV→Obs→Option (PV × (List PV))
 | [.ptr 2000000 [],.val 39 p1],[(2000000,.box 97 (.agg 97 [.ptr 2000000 [],.own 36 2000001])),(2000001,.row 5 l2)]=>some (p1,l2)
 | _,_=>none
theorem f54v1_D_ok (args:List SV)(B:Obs)(x:PV × (List PV))(h:f54v1_D args B=some x):f54v1_I x=(args,B):=by
 unfold f54v1_D at h
 split at h
 ·injection h with h;subst h;rfl
 ·cases h
noncomputable def f54v1_O:(List PV)→Out:=(fun y=>([],[(2000000,.box 97 (.agg 97 [.ptr 2000000 [],.own 36 2000001])),(2000001,.row 5 y)]))
noncomputable def f54v1_un:Out→Option ((List PV))
 | ([],[(2000000,.box 97 (.agg 97 [.ptr 2000000 [],.own 36 2000001])),(2000001,.row 5 y0)])=>some y0
 | _=>none
theorem f54v1_un_ok (o:Out)(y:(List PV))(h:f54v1_un o=some y):o=f54v1_O y:=by
 unfold f54v1_un at h
 split at h
 ·injection h with h;subst h;rfl
 ·cases h
noncomputable def f54v1_msk:Nat→Option (List Nat):=fun key=>bif key==63 then some [0,5,49,50,51] else none
noncomputable def f54v1_C (c54v1:Chb_10)(c79v1:Chb_12)(c80:Chb_13):Oracle:=orc 54 f54v1_D f54v1_O (fun x ret=>c54v1 x.1 x.2 (fun y0=>ret y0)) <| orc 79 f79v1_D f79v1_O (fun x ret=>c79v1 x.1 x.2 (fun y0 y1 y2=>ret (y0,y1,y2))) <| orc 80 f80_D f80_O (fun x ret=>c80 x (fun y0=>ret y0)) <| orc0
noncomputable def f54v1_E (k:Nat)(c54v1:Chb_10)(c79v1:Chb_12)(c80:Chb_13):Env:={ P:=Try.prog,nilOwn:=fun d=>false,fldOwn:=fun d i=>false,ownPar:=ownPars,ownRet:=false,hpD:=fun d=>false,hpF:=hpFs,hpNew:=false,mask:=f54v1_msk,fuel:=k,C:=f54v1_C c54v1 c79v1 c80 }
noncomputable def f54v1_code:Code:=Try.f54.body.getD .skip
noncomputable def f54v1_cw1:Code:=subC f54v1_code [1,1,1,1,0,1,0,0]
noncomputable def f54v1_hw1_0 (p6:PV)(n11:Int)(l12:List PV):St:=⟨[.ptr 2000000 [],.dead,.dead,.dead,.dead,.str [],.dead,.dead,.dead,.dead,.dead,.dead,.dead,.dead,.dead,.dead,.dead,.dead,.dead,.dead,.dead,.dead,.dead,.dead,.dead,.dead,.dead,.dead,.dead,.dead,.dead,.dead,.dead,.dead,.dead,.dead,.dead,.dead,.dead,.dead,.dead,.dead,.dead,.dead,.dead,.dead,.dead,.dead,.dead,.val 37 p6,.int .i64 (List.length (PV.els p6):Int),.int .i64 n11,.dead,.dead,.dead,.dead,.dead,.dead,.dead,.dead,.dead,.dead,.dead,.dead,.dead,.dead,.dead],[(2000000,.box 97 (.agg 97 [.ptr 2000000 [],.own 36 2000001])),(2000001,.row 5 l12)]⟩
noncomputable def f54v1_w1A (k:Nat)(c54v1:Chb_10)(c79v1:Chb_12)(c80:Chb_13)(retF:(List PV)→R)(p6:PV)(n11:Int)(l12:List PV):R:=loopM (f54v1_E k c54v1 c79v1 c80) f54v1_cw1 (kont (f54v1_E k c54v1 c79v1 c80) f54v1_code [1,1,1,1,0,1,0] (endK (f54v1_E k c54v1 c79v1 c80) Try.f54 [2000000,2000001] f54v1_un retF)) k (f54v1_hw1_0 p6 n11 l12)
noncomputable def f54v1_w1b0 (c54v1:Chb_10)(c79v1:Chb_12)(c80:Chb_13)(ret0:(List PV)→R)(next_w1_0:Int→(List PV)→R)(p6:PV)(n11:Int)(l12:List PV):R :=
 bif (decide (n11 < (List.length (PV.els p6):Int))) then
 bif (true&&decide ((0:Int)≤n11)&&decide (n11 < (List.length (PV.els p6):Int))) then
 bif (decide ((0:Int) < n11)) then
 c79v1 [44] l12 fun n13 p14 l15 =>
 c54v1 (List.getD (PV.els p6) (n11).toNat PV.nil) l15 fun l16 =>
 next_w1_0 (IntKind.wrap .i64 (n11+(1:Int))) l16
 else c54v1 (List.getD (PV.els p6) (n11).toNat PV.nil) l12 fun l17 =>
 next_w1_0 (IntKind.wrap .i64 (n11+(1:Int))) l17
 else none
 else c79v1 [] l12 fun n18 p19 l20 =>
 ret0 l20

theorem f54v1_w1b0_mem (k:Nat)(c54v1:Chb_10)(c79v1:Chb_12)(c80:Chb_13)(retF:(List PV)→R)(NX_w1:St→R)(p6:PV)(n11:Int)(l12:List PV):exec (f54v1_E k c54v1 c79v1 c80) f54v1_cw1 (purgeK (f54v1_E k c54v1 c79v1 c80) f54v1_cw1 (loopK NX_w1 (kont (f54v1_E k c54v1 c79v1 c80) f54v1_code [1,1,1,1,0,1,0] (endK (f54v1_E k c54v1 c79v1 c80) Try.f54 [2000000,2000001] f54v1_un retF)))) (f54v1_hw1_0 p6 n11 l12)=f54v1_w1b0 c54v1 c79v1 c80 (fun y0=>retF y0) (fun n11 l12=>NX_w1 (f54v1_hw1_0 p6 n11 l12)) p6 n11 l12:=by kernel_rfl

noncomputable def f54v1_w1b0N (k:Nat)(c54v1:Chb_10)(c79v1:Chb_12)(c80:Chb_13)(ret0:(List PV)→R)(next_w1_0:Int→(List PV)→R)(p6:PV)(n11:Int)(l12:List PV):R :=
 f54v1_w1b0 c54v1 c79v1 c80 ret0 next_w1_0 p6 n11 l12
theorem f54v1_w1b0_eq (k:Nat)(c54v1:Chb_10)(c79v1:Chb_12)(c80:Chb_13)(retF:(List PV)→R)(NX_w1:St→R)(p6:PV)(n11:Int)(l12:List PV):exec (f54v1_E k c54v1 c79v1 c80) f54v1_cw1 (purgeK (f54v1_E k c54v1 c79v1 c80) f54v1_cw1 (loopK NX_w1 (kont (f54v1_E k c54v1 c79v1 c80) f54v1_code [1,1,1,1,0,1,0] (endK (f54v1_E k c54v1 c79v1 c80) Try.f54 [2000000,2000001] f54v1_un retF)))) (f54v1_hw1_0 p6 n11 l12)=f54v1_w1b0N k c54v1 c79v1 c80 (fun y0=>retF y0) (fun n11 l12=>NX_w1 (f54v1_hw1_0 p6 n11 l12)) p6 n11 l12 :=
 (f54v1_w1b0_mem k c54v1 c79v1 c80 retF NX_w1 p6 n11 l12)

noncomputable def f54v1_w1B (k:Nat)(c54v1:Chb_10)(c79v1:Chb_12)(c80:Chb_13)(ret0:(List PV)→R)(p6:PV)(nx:Int × (List PV)→R):Int × (List PV)→R:=(fun s=>f54v1_w1b0N k c54v1 c79v1 c80 ret0 (fun n11 l12=>nx (n11,l12)) p6 s.1 s.2)
noncomputable def f54v1_w1N (k:Nat)(c54v1:Chb_10)(c79v1:Chb_12)(c80:Chb_13)(ret0:(List PV)→R)(p6:PV)(n11:Int)(l12:List PV):R:=loopR (f54v1_w1B k c54v1 c79v1 c80 ret0 p6) k (n11,l12)
theorem f54v1_w1_eq (k:Nat)(c54v1:Chb_10)(c79v1:Chb_12)(c80:Chb_13)(retF:(List PV)→R)(p6:PV)(n11:Int)(l12:List PV):f54v1_w1A k c54v1 c79v1 c80 retF p6 n11 l12=f54v1_w1N k c54v1 c79v1 c80 (fun y0=>retF y0) p6 n11 l12 :=
 Eq.mp (by kernel_rfl) (loop_sim (E:=(f54v1_E k c54v1 c79v1 c80)) (c:=f54v1_cw1) (K:=(kont (f54v1_E k c54v1 c79v1 c80) f54v1_code [1,1,1,1,0,1,0] (endK (f54v1_E k c54v1 c79v1 c80) Try.f54 [2000000,2000001] f54v1_un retF))) (S:=Int × (List PV)) (fun s=>f54v1_hw1_0 p6 s.1 s.2) (f54v1_w1B k c54v1 c79v1 c80 (fun y0=>retF y0) p6) (fun NX s=>by
  exact Eq.mp (by kernel_rfl) (f54v1_w1b0_eq k c54v1 c79v1 c80 retF NX p6 s.1 s.2)) k (n11,l12))

noncomputable def f54v1_cw3:Code:=subC f54v1_code [1,1,1,1,0,1,0,0]
noncomputable def f54v1_hw3_0 (p44:PV)(n49:Int)(l50:List PV):St:=⟨[.ptr 2000000 [],.dead,.dead,.dead,.dead,.str [44,41],.dead,.dead,.dead,.dead,.dead,.dead,.dead,.dead,.dead,.dead,.dead,.dead,.dead,.dead,.dead,.dead,.dead,.dead,.dead,.dead,.dead,.dead,.dead,.dead,.dead,.dead,.dead,.dead,.dead,.dead,.dead,.dead,.dead,.dead,.dead,.dead,.dead,.dead,.dead,.dead,.dead,.dead,.dead,.val 37 p44,.int .i64 (List.length (PV.els p44):Int),.int .i64 n49,.dead,.dead,.dead,.dead,.dead,.dead,.dead,.dead,.dead,.dead,.dead,.dead,.dead,.dead,.dead],[(2000000,.box 97 (.agg 97 [.ptr 2000000 [],.own 36 2000001])),(2000001,.row 5 l50)]⟩
noncomputable def f54v1_w3A (k:Nat)(c54v1:Chb_10)(c79v1:Chb_12)(c80:Chb_13)(retF:(List PV)→R)(p44:PV)(n49:Int)(l50:List PV):R:=loopM (f54v1_E k c54v1 c79v1 c80) f54v1_cw3 (kont (f54v1_E k c54v1 c79v1 c80) f54v1_code [1,1,1,1,0,1,0] (endK (f54v1_E k c54v1 c79v1 c80) Try.f54 [2000000,2000001] f54v1_un retF)) k (f54v1_hw3_0 p44 n49 l50)
noncomputable def f54v1_w3b0 (c54v1:Chb_10)(c79v1:Chb_12)(c80:Chb_13)(ret0:(List PV)→R)(next_w3_0:Int→(List PV)→R)(p44:PV)(n49:Int)(l50:List PV):R :=
 bif (decide (n49 < (List.length (PV.els p44):Int))) then
 bif (true&&decide ((0:Int)≤n49)&&decide (n49 < (List.length (PV.els p44):Int))) then
 bif (decide ((0:Int) < n49)) then
 c79v1 [44] l50 fun n51 p52 l53 =>
 c54v1 (List.getD (PV.els p44) (n49).toNat PV.nil) l53 fun l54 =>
 next_w3_0 (IntKind.wrap .i64 (n49+(1:Int))) l54
 else c54v1 (List.getD (PV.els p44) (n49).toNat PV.nil) l50 fun l55 =>
 next_w3_0 (IntKind.wrap .i64 (n49+(1:Int))) l55
 else none
 else c79v1 [44,41] l50 fun n56 p57 l58 =>
 ret0 l58

theorem f54v1_w3b0_mem (k:Nat)(c54v1:Chb_10)(c79v1:Chb_12)(c80:Chb_13)(retF:(List PV)→R)(NX_w3:St→R)(p44:PV)(n49:Int)(l50:List PV):exec (f54v1_E k c54v1 c79v1 c80) f54v1_cw3 (purgeK (f54v1_E k c54v1 c79v1 c80) f54v1_cw3 (loopK NX_w3 (kont (f54v1_E k c54v1 c79v1 c80) f54v1_code [1,1,1,1,0,1,0] (endK (f54v1_E k c54v1 c79v1 c80) Try.f54 [2000000,2000001] f54v1_un retF)))) (f54v1_hw3_0 p44 n49 l50)=f54v1_w3b0 c54v1 c79v1 c80 (fun y0=>retF y0) (fun n49 l50=>NX_w3 (f54v1_hw3_0 p44 n49 l50)) p44 n49 l50:=by kernel_rfl

noncomputable def f54v1_w3b0N (k:Nat)(c54v1:Chb_10)(c79v1:Chb_12)(c80:Chb_13)(ret0:(List PV)→R)(next_w3_0:Int→(List PV)→R)(p44:PV)(n49:Int)(l50:List PV):R :=
 f54v1_w3b0 c54v1 c79v1 c80 ret0 next_w3_0 p44 n49 l50
theorem f54v1_w3b0_eq (k:Nat)(c54v1:Chb_10)(c79v1:Chb_12)(c80:Chb_13)(retF:(List PV)→R)(NX_w3:St→R)(p44:PV)(n49:Int)(l50:List PV):exec (f54v1_E k c54v1 c79v1 c80) f54v1_cw3 (purgeK (f54v1_E k c54v1 c79v1 c80) f54v1_cw3 (loopK NX_w3 (kont (f54v1_E k c54v1 c79v1 c80) f54v1_code [1,1,1,1,0,1,0] (endK (f54v1_E k c54v1 c79v1 c80) Try.f54 [2000000,2000001] f54v1_un retF)))) (f54v1_hw3_0 p44 n49 l50)=f54v1_w3b0N k c54v1 c79v1 c80 (fun y0=>retF y0) (fun n49 l50=>NX_w3 (f54v1_hw3_0 p44 n49 l50)) p44 n49 l50 :=
 (f54v1_w3b0_mem k c54v1 c79v1 c80 retF NX_w3 p44 n49 l50)

noncomputable def f54v1_w3B (k:Nat)(c54v1:Chb_10)(c79v1:Chb_12)(c80:Chb_13)(ret0:(List PV)→R)(p44:PV)(nx:Int × (List PV)→R):Int × (List PV)→R:=(fun s=>f54v1_w3b0N k c54v1 c79v1 c80 ret0 (fun n49 l50=>nx (n49,l50)) p44 s.1 s.2)
noncomputable def f54v1_w3N (k:Nat)(c54v1:Chb_10)(c79v1:Chb_12)(c80:Chb_13)(ret0:(List PV)→R)(p44:PV)(n49:Int)(l50:List PV):R:=loopR (f54v1_w3B k c54v1 c79v1 c80 ret0 p44) k (n49,l50)
theorem f54v1_w3_eq (k:Nat)(c54v1:Chb_10)(c79v1:Chb_12)(c80:Chb_13)(retF:(List PV)→R)(p44:PV)(n49:Int)(l50:List PV):f54v1_w3A k c54v1 c79v1 c80 retF p44 n49 l50=f54v1_w3N k c54v1 c79v1 c80 (fun y0=>retF y0) p44 n49 l50 :=
 Eq.mp (by kernel_rfl) (loop_sim (E:=(f54v1_E k c54v1 c79v1 c80)) (c:=f54v1_cw3) (K:=(kont (f54v1_E k c54v1 c79v1 c80) f54v1_code [1,1,1,1,0,1,0] (endK (f54v1_E k c54v1 c79v1 c80) Try.f54 [2000000,2000001] f54v1_un retF))) (S:=Int × (List PV)) (fun s=>f54v1_hw3_0 p44 s.1 s.2) (f54v1_w3B k c54v1 c79v1 c80 (fun y0=>retF y0) p44) (fun NX s=>by
  exact Eq.mp (by kernel_rfl) (f54v1_w3b0_eq k c54v1 c79v1 c80 retF NX p44 s.1 s.2)) k (n49,l50))

noncomputable def f54v1_cw4:Code:=subC f54v1_code [1,1,1,1,0,1,0,0]
noncomputable def f54v1_hw4_0 (p62:PV)(n67:Int)(l68:List PV):St:=⟨[.ptr 2000000 [],.dead,.dead,.dead,.dead,.str [41],.dead,.dead,.dead,.dead,.dead,.dead,.dead,.dead,.dead,.dead,.dead,.dead,.dead,.dead,.dead,.dead,.dead,.dead,.dead,.dead,.dead,.dead,.dead,.dead,.dead,.dead,.dead,.dead,.dead,.dead,.dead,.dead,.dead,.dead,.dead,.dead,.dead,.dead,.dead,.dead,.dead,.dead,.dead,.val 37 p62,.int .i64 (List.length (PV.els p62):Int),.int .i64 n67,.dead,.dead,.dead,.dead,.dead,.dead,.dead,.dead,.dead,.dead,.dead,.dead,.dead,.dead,.dead],[(2000000,.box 97 (.agg 97 [.ptr 2000000 [],.own 36 2000001])),(2000001,.row 5 l68)]⟩
noncomputable def f54v1_w4A (k:Nat)(c54v1:Chb_10)(c79v1:Chb_12)(c80:Chb_13)(retF:(List PV)→R)(p62:PV)(n67:Int)(l68:List PV):R:=loopM (f54v1_E k c54v1 c79v1 c80) f54v1_cw4 (kont (f54v1_E k c54v1 c79v1 c80) f54v1_code [1,1,1,1,0,1,0] (endK (f54v1_E k c54v1 c79v1 c80) Try.f54 [2000000,2000001] f54v1_un retF)) k (f54v1_hw4_0 p62 n67 l68)
noncomputable def f54v1_w4b0 (c54v1:Chb_10)(c79v1:Chb_12)(c80:Chb_13)(ret0:(List PV)→R)(next_w4_0:Int→(List PV)→R)(p62:PV)(n67:Int)(l68:List PV):R :=
 bif (decide (n67 < (List.length (PV.els p62):Int))) then
 bif (true&&decide ((0:Int)≤n67)&&decide (n67 < (List.length (PV.els p62):Int))) then
 bif (decide ((0:Int) < n67)) then
 c79v1 [44] l68 fun n69 p70 l71 =>
 c54v1 (List.getD (PV.els p62) (n67).toNat PV.nil) l71 fun l72 =>
 next_w4_0 (IntKind.wrap .i64 (n67+(1:Int))) l72
 else c54v1 (List.getD (PV.els p62) (n67).toNat PV.nil) l68 fun l73 =>
 next_w4_0 (IntKind.wrap .i64 (n67+(1:Int))) l73
 else none
 else c79v1 [41] l68 fun n74 p75 l76 =>
 ret0 l76

theorem f54v1_w4b0_mem (k:Nat)(c54v1:Chb_10)(c79v1:Chb_12)(c80:Chb_13)(retF:(List PV)→R)(NX_w4:St→R)(p62:PV)(n67:Int)(l68:List PV):exec (f54v1_E k c54v1 c79v1 c80) f54v1_cw4 (purgeK (f54v1_E k c54v1 c79v1 c80) f54v1_cw4 (loopK NX_w4 (kont (f54v1_E k c54v1 c79v1 c80) f54v1_code [1,1,1,1,0,1,0] (endK (f54v1_E k c54v1 c79v1 c80) Try.f54 [2000000,2000001] f54v1_un retF)))) (f54v1_hw4_0 p62 n67 l68)=f54v1_w4b0 c54v1 c79v1 c80 (fun y0=>retF y0) (fun n67 l68=>NX_w4 (f54v1_hw4_0 p62 n67 l68)) p62 n67 l68:=by kernel_rfl

noncomputable def f54v1_w4b0N (k:Nat)(c54v1:Chb_10)(c79v1:Chb_12)(c80:Chb_13)(ret0:(List PV)→R)(next_w4_0:Int→(List PV)→R)(p62:PV)(n67:Int)(l68:List PV):R :=
 f54v1_w4b0 c54v1 c79v1 c80 ret0 next_w4_0 p62 n67 l68
theorem f54v1_w4b0_eq (k:Nat)(c54v1:Chb_10)(c79v1:Chb_12)(c80:Chb_13)(retF:(List PV)→R)(NX_w4:St→R)(p62:PV)(n67:Int)(l68:List PV):exec (f54v1_E k c54v1 c79v1 c80) f54v1_cw4 (purgeK (f54v1_E k c54v1 c79v1 c80) f54v1_cw4 (loopK NX_w4 (kont (f54v1_E k c54v1 c79v1 c80) f54v1_code [1,1,1,1,0,1,0] (endK (f54v1_E k c54v1 c79v1 c80) Try.f54 [2000000,2000001] f54v1_un retF)))) (f54v1_hw4_0 p62 n67 l68)=f54v1_w4b0N k c54v1 c79v1 c80 (fun y0=>retF y0) (fun n67 l68=>NX_w4 (f54v1_hw4_0 p62 n67 l68)) p62 n67 l68 :=
 (f54v1_w4b0_mem k c54v1 c79v1 c80 retF NX_w4 p62 n67 l68)

noncomputable def f54v1_w4B (k:Nat)(c54v1:Chb_10)(c79v1:Chb_12)(c80:Chb_13)(ret0:(List PV)→R)(p62:PV)(nx:Int × (List PV)→R):Int × (List PV)→R:=(fun s=>f54v1_w4b0N k c54v1 c79v1 c80 ret0 (fun n67 l68=>nx (n67,l68)) p62 s.1 s.2)
noncomputable def f54v1_w4N (k:Nat)(c54v1:Chb_10)(c79v1:Chb_12)(c80:Chb_13)(ret0:(List PV)→R)(p62:PV)(n67:Int)(l68:List PV):R:=loopR (f54v1_w4B k c54v1 c79v1 c80 ret0 p62) k (n67,l68)
theorem f54v1_w4_eq (k:Nat)(c54v1:Chb_10)(c79v1:Chb_12)(c80:Chb_13)(retF:(List PV)→R)(p62:PV)(n67:Int)(l68:List PV):f54v1_w4A k c54v1 c79v1 c80 retF p62 n67 l68=f54v1_w4N k c54v1 c79v1 c80 (fun y0=>retF y0) p62 n67 l68 :=
 Eq.mp (by kernel_rfl) (loop_sim (E:=(f54v1_E k c54v1 c79v1 c80)) (c:=f54v1_cw4) (K:=(kont (f54v1_E k c54v1 c79v1 c80) f54v1_code [1,1,1,1,0,1,0] (endK (f54v1_E k c54v1 c79v1 c80) Try.f54 [2000000,2000001] f54v1_un retF))) (S:=Int × (List PV)) (fun s=>f54v1_hw4_0 p62 s.1 s.2) (f54v1_w4B k c54v1 c79v1 c80 (fun y0=>retF y0) p62) (fun NX s=>by
  exact Eq.mp (by kernel_rfl) (f54v1_w4b0_eq k c54v1 c79v1 c80 retF NX p62 s.1 s.2)) k (n67,l68))

noncomputable def f54v1_cw7:Code:=subC f54v1_code [1,1,1,1,0,1,0,0]
noncomputable def f54v1_hw7_0 (p116:PV)(n121:Int)(l122:List PV):St:=⟨[.ptr 2000000 [],.dead,.dead,.dead,.dead,.str [93],.dead,.dead,.dead,.dead,.dead,.dead,.dead,.dead,.dead,.dead,.dead,.dead,.dead,.dead,.dead,.dead,.dead,.dead,.dead,.dead,.dead,.dead,.dead,.dead,.dead,.dead,.dead,.dead,.dead,.dead,.dead,.dead,.dead,.dead,.dead,.dead,.dead,.dead,.dead,.dead,.dead,.dead,.dead,.val 37 p116,.int .i64 (List.length (PV.els p116):Int),.int .i64 n121,.dead,.dead,.dead,.dead,.dead,.dead,.dead,.dead,.dead,.dead,.dead,.dead,.dead,.dead,.dead],[(2000000,.box 97 (.agg 97 [.ptr 2000000 [],.own 36 2000001])),(2000001,.row 5 l122)]⟩
noncomputable def f54v1_w7A (k:Nat)(c54v1:Chb_10)(c79v1:Chb_12)(c80:Chb_13)(retF:(List PV)→R)(p116:PV)(n121:Int)(l122:List PV):R:=loopM (f54v1_E k c54v1 c79v1 c80) f54v1_cw7 (kont (f54v1_E k c54v1 c79v1 c80) f54v1_code [1,1,1,1,0,1,0] (endK (f54v1_E k c54v1 c79v1 c80) Try.f54 [2000000,2000001] f54v1_un retF)) k (f54v1_hw7_0 p116 n121 l122)
noncomputable def f54v1_w7b0 (c54v1:Chb_10)(c79v1:Chb_12)(c80:Chb_13)(ret0:(List PV)→R)(next_w7_0:Int→(List PV)→R)(p116:PV)(n121:Int)(l122:List PV):R :=
 bif (decide (n121 < (List.length (PV.els p116):Int))) then
 bif (true&&decide ((0:Int)≤n121)&&decide (n121 < (List.length (PV.els p116):Int))) then
 bif (decide ((0:Int) < n121)) then
 c79v1 [44] l122 fun n123 p124 l125 =>
 c54v1 (List.getD (PV.els p116) (n121).toNat PV.nil) l125 fun l126 =>
 next_w7_0 (IntKind.wrap .i64 (n121+(1:Int))) l126
 else c54v1 (List.getD (PV.els p116) (n121).toNat PV.nil) l122 fun l127 =>
 next_w7_0 (IntKind.wrap .i64 (n121+(1:Int))) l127
 else none
 else c79v1 [93] l122 fun n128 p129 l130 =>
 ret0 l130

theorem f54v1_w7b0_mem (k:Nat)(c54v1:Chb_10)(c79v1:Chb_12)(c80:Chb_13)(retF:(List PV)→R)(NX_w7:St→R)(p116:PV)(n121:Int)(l122:List PV):exec (f54v1_E k c54v1 c79v1 c80) f54v1_cw7 (purgeK (f54v1_E k c54v1 c79v1 c80) f54v1_cw7 (loopK NX_w7 (kont (f54v1_E k c54v1 c79v1 c80) f54v1_code [1,1,1,1,0,1,0] (endK (f54v1_E k c54v1 c79v1 c80) Try.f54 [2000000,2000001] f54v1_un retF)))) (f54v1_hw7_0 p116 n121 l122)=f54v1_w7b0 c54v1 c79v1 c80 (fun y0=>retF y0) (fun n121 l122=>NX_w7 (f54v1_hw7_0 p116 n121 l122)) p116 n121 l122:=by kernel_rfl

noncomputable def f54v1_w7b0N (k:Nat)(c54v1:Chb_10)(c79v1:Chb_12)(c80:Chb_13)(ret0:(List PV)→R)(next_w7_0:Int→(List PV)→R)(p116:PV)(n121:Int)(l122:List PV):R :=
 f54v1_w7b0 c54v1 c79v1 c80 ret0 next_w7_0 p116 n121 l122
theorem f54v1_w7b0_eq (k:Nat)(c54v1:Chb_10)(c79v1:Chb_12)(c80:Chb_13)(retF:(List PV)→R)(NX_w7:St→R)(p116:PV)(n121:Int)(l122:List PV):exec (f54v1_E k c54v1 c79v1 c80) f54v1_cw7 (purgeK (f54v1_E k c54v1 c79v1 c80) f54v1_cw7 (loopK NX_w7 (kont (f54v1_E k c54v1 c79v1 c80) f54v1_code [1,1,1,1,0,1,0] (endK (f54v1_E k c54v1 c79v1 c80) Try.f54 [2000000,2000001] f54v1_un retF)))) (f54v1_hw7_0 p116 n121 l122)=f54v1_w7b0N k c54v1 c79v1 c80 (fun y0=>retF y0) (fun n121 l122=>NX_w7 (f54v1_hw7_0 p116 n121 l122)) p116 n121 l122 :=
 (f54v1_w7b0_mem k c54v1 c79v1 c80 retF NX_w7 p116 n121 l122)

noncomputable def f54v1_w7B (k:Nat)(c54v1:Chb_10)(c79v1:Chb_12)(c80:Chb_13)(ret0:(List PV)→R)(p116:PV)(nx:Int × (List PV)→R):Int × (List PV)→R:=(fun s=>f54v1_w7b0N k c54v1 c79v1 c80 ret0 (fun n121 l122=>nx (n121,l122)) p116 s.1 s.2)
noncomputable def f54v1_w7N (k:Nat)(c54v1:Chb_10)(c79v1:Chb_12)(c80:Chb_13)(ret0:(List PV)→R)(p116:PV)(n121:Int)(l122:List PV):R:=loopR (f54v1_w7B k c54v1 c79v1 c80 ret0 p116) k (n121,l122)
theorem f54v1_w7_eq (k:Nat)(c54v1:Chb_10)(c79v1:Chb_12)(c80:Chb_13)(retF:(List PV)→R)(p116:PV)(n121:Int)(l122:List PV):f54v1_w7A k c54v1 c79v1 c80 retF p116 n121 l122=f54v1_w7N k c54v1 c79v1 c80 (fun y0=>retF y0) p116 n121 l122 :=
 Eq.mp (by kernel_rfl) (loop_sim (E:=(f54v1_E k c54v1 c79v1 c80)) (c:=f54v1_cw7) (K:=(kont (f54v1_E k c54v1 c79v1 c80) f54v1_code [1,1,1,1,0,1,0] (endK (f54v1_E k c54v1 c79v1 c80) Try.f54 [2000000,2000001] f54v1_un retF))) (S:=Int × (List PV)) (fun s=>f54v1_hw7_0 p116 s.1 s.2) (f54v1_w7B k c54v1 c79v1 c80 (fun y0=>retF y0) p116) (fun NX s=>by
  exact Eq.mp (by kernel_rfl) (f54v1_w7b0_eq k c54v1 c79v1 c80 retF NX p116 s.1 s.2)) k (n121,l122))

noncomputable def f54v1_cw8:Code:=subC f54v1_code [1,1,1,1,0,1,0,0]
noncomputable def f54v1_hw8_0 (p134:PV)(n139:Int)(l140:List PV):St:=⟨[.ptr 2000000 [],.dead,.dead,.dead,.dead,.str [62],.dead,.dead,.dead,.dead,.dead,.dead,.dead,.dead,.dead,.dead,.dead,.dead,.dead,.dead,.dead,.dead,.dead,.dead,.dead,.dead,.dead,.dead,.dead,.dead,.dead,.dead,.dead,.dead,.dead,.dead,.dead,.dead,.dead,.dead,.dead,.dead,.dead,.dead,.dead,.dead,.dead,.dead,.dead,.val 37 p134,.int .i64 (List.length (PV.els p134):Int),.int .i64 n139,.dead,.dead,.dead,.dead,.dead,.dead,.dead,.dead,.dead,.dead,.dead,.dead,.dead,.dead,.dead],[(2000000,.box 97 (.agg 97 [.ptr 2000000 [],.own 36 2000001])),(2000001,.row 5 l140)]⟩
noncomputable def f54v1_w8A (k:Nat)(c54v1:Chb_10)(c79v1:Chb_12)(c80:Chb_13)(retF:(List PV)→R)(p134:PV)(n139:Int)(l140:List PV):R:=loopM (f54v1_E k c54v1 c79v1 c80) f54v1_cw8 (kont (f54v1_E k c54v1 c79v1 c80) f54v1_code [1,1,1,1,0,1,0] (endK (f54v1_E k c54v1 c79v1 c80) Try.f54 [2000000,2000001] f54v1_un retF)) k (f54v1_hw8_0 p134 n139 l140)
noncomputable def f54v1_w8b0 (c54v1:Chb_10)(c79v1:Chb_12)(c80:Chb_13)(ret0:(List PV)→R)(next_w8_0:Int→(List PV)→R)(p134:PV)(n139:Int)(l140:List PV):R :=
 bif (decide (n139 < (List.length (PV.els p134):Int))) then
 bif (true&&decide ((0:Int)≤n139)&&decide (n139 < (List.length (PV.els p134):Int))) then
 bif (decide ((0:Int) < n139)) then
 c79v1 [44] l140 fun n141 p142 l143 =>
 c54v1 (List.getD (PV.els p134) (n139).toNat PV.nil) l143 fun l144 =>
 next_w8_0 (IntKind.wrap .i64 (n139+(1:Int))) l144
 else c54v1 (List.getD (PV.els p134) (n139).toNat PV.nil) l140 fun l145 =>
 next_w8_0 (IntKind.wrap .i64 (n139+(1:Int))) l145
 else none
 else c79v1 [62] l140 fun n146 p147 l148 =>
 ret0 l148

theorem f54v1_w8b0_mem (k:Nat)(c54v1:Chb_10)(c79v1:Chb_12)(c80:Chb_13)(retF:(List PV)→R)(NX_w8:St→R)(p134:PV)(n139:Int)(l140:List PV):exec (f54v1_E k c54v1 c79v1 c80) f54v1_cw8 (purgeK (f54v1_E k c54v1 c79v1 c80) f54v1_cw8 (loopK NX_w8 (kont (f54v1_E k c54v1 c79v1 c80) f54v1_code [1,1,1,1,0,1,0] (endK (f54v1_E k c54v1 c79v1 c80) Try.f54 [2000000,2000001] f54v1_un retF)))) (f54v1_hw8_0 p134 n139 l140)=f54v1_w8b0 c54v1 c79v1 c80 (fun y0=>retF y0) (fun n139 l140=>NX_w8 (f54v1_hw8_0 p134 n139 l140)) p134 n139 l140:=by kernel_rfl

noncomputable def f54v1_w8b0N (k:Nat)(c54v1:Chb_10)(c79v1:Chb_12)(c80:Chb_13)(ret0:(List PV)→R)(next_w8_0:Int→(List PV)→R)(p134:PV)(n139:Int)(l140:List PV):R :=
 f54v1_w8b0 c54v1 c79v1 c80 ret0 next_w8_0 p134 n139 l140
theorem f54v1_w8b0_eq (k:Nat)(c54v1:Chb_10)(c79v1:Chb_12)(c80:Chb_13)(retF:(List PV)→R)(NX_w8:St→R)(p134:PV)(n139:Int)(l140:List PV):exec (f54v1_E k c54v1 c79v1 c80) f54v1_cw8 (purgeK (f54v1_E k c54v1 c79v1 c80) f54v1_cw8 (loopK NX_w8 (kont (f54v1_E k c54v1 c79v1 c80) f54v1_code [1,1,1,1,0,1,0] (endK (f54v1_E k c54v1 c79v1 c80) Try.f54 [2000000,2000001] f54v1_un retF)))) (f54v1_hw8_0 p134 n139 l140)=f54v1_w8b0N k c54v1 c79v1 c80 (fun y0=>retF y0) (fun n139 l140=>NX_w8 (f54v1_hw8_0 p134 n139 l140)) p134 n139 l140 :=
 (f54v1_w8b0_mem k c54v1 c79v1 c80 retF NX_w8 p134 n139 l140)

noncomputable def f54v1_w8B (k:Nat)(c54v1:Chb_10)(c79v1:Chb_12)(c80:Chb_13)(ret0:(List PV)→R)(p134:PV)(nx:Int × (List PV)→R):Int × (List PV)→R:=(fun s=>f54v1_w8b0N k c54v1 c79v1 c80 ret0 (fun n139 l140=>nx (n139,l140)) p134 s.1 s.2)
noncomputable def f54v1_w8N (k:Nat)(c54v1:Chb_10)(c79v1:Chb_12)(c80:Chb_13)(ret0:(List PV)→R)(p134:PV)(n139:Int)(l140:List PV):R:=loopR (f54v1_w8B k c54v1 c79v1 c80 ret0 p134) k (n139,l140)
theorem f54v1_w8_eq (k:Nat)(c54v1:Chb_10)(c79v1:Chb_12)(c80:Chb_13)(retF:(List PV)→R)(p134:PV)(n139:Int)(l140:List PV):f54v1_w8A k c54v1 c79v1 c80 retF p134 n139 l140=f54v1_w8N k c54v1 c79v1 c80 (fun y0=>retF y0) p134 n139 l140 :=
 Eq.mp (by kernel_rfl) (loop_sim (E:=(f54v1_E k c54v1 c79v1 c80)) (c:=f54v1_cw8) (K:=(kont (f54v1_E k c54v1 c79v1 c80) f54v1_code [1,1,1,1,0,1,0] (endK (f54v1_E k c54v1 c79v1 c80) Try.f54 [2000000,2000001] f54v1_un retF))) (S:=Int × (List PV)) (fun s=>f54v1_hw8_0 p134 s.1 s.2) (f54v1_w8B k c54v1 c79v1 c80 (fun y0=>retF y0) p134) (fun NX s=>by
  exact Eq.mp (by kernel_rfl) (f54v1_w8b0_eq k c54v1 c79v1 c80 retF NX p134 s.1 s.2)) k (n139,l140))

noncomputable def f54v1_e (c54v1:Chb_10)(c79v1:Chb_12)(c80:Chb_13)(ret0:(List PV)→R)(w1:PV→Int→(List PV)→R)(w3:PV→Int→(List PV)→R)(w4:PV→Int→(List PV)→R)(w7:PV→Int→(List PV)→R)(w8:PV→Int→(List PV)→R)(p1:PV)(l2:List PV):R :=
 bif (decide ((PV.num (PV.fld p1 0))=(1:Int))) then
 c79v1 [69] l2 fun n3 p4 l5 =>
 c80 p1 fun p6 =>
 w1 p6 0 l5
 else bif (decide ((PV.num (PV.fld p1 0))=(2:Int))) then
 bif (decide ((0:Int)≤(Int.fdiv (PV.num (PV.fld p1 1)) (2 ^ (min ((4:Int)).toNat 8))))&&decide ((Int.fdiv (PV.num (PV.fld p1 1)) (2 ^ (min ((4:Int)).toNat 8)))≤(IntKind.wrap .u8 ((Int.fdiv (PV.num (PV.fld p1 1)) (2 ^ (min ((4:Int)).toNat 8)))+(1:Int))))&&decide ((IntKind.wrap .u8 ((Int.fdiv (PV.num (PV.fld p1 1)) (2 ^ (min ((4:Int)).toNat 8)))+(1:Int)))≤(List.length [48,49,50,51,52,53,54,55,56,57,97,98,99,100,101,102]:Int))) then
 let s21:List Int:=(List.drop ((Int.fdiv (PV.num (PV.fld p1 1)) (2 ^ (min ((4:Int)).toNat 8)))).toNat (List.take ((IntKind.wrap .u8 ((Int.fdiv (PV.num (PV.fld p1 1)) (2 ^ (min ((4:Int)).toNat 8)))+(1:Int)))).toNat [48,49,50,51,52,53,54,55,56,57,97,98,99,100,101,102]))
 bif (decide ((0:Int)≤(intBit .and .u8 (PV.num (PV.fld p1 1)) 15))&&decide ((intBit .and .u8 (PV.num (PV.fld p1 1)) 15)≤(IntKind.wrap .u8 ((intBit .and .u8 (PV.num (PV.fld p1 1)) 15)+(1:Int))))&&decide ((IntKind.wrap .u8 ((intBit .and .u8 (PV.num (PV.fld p1 1)) 15)+(1:Int)))≤(List.length [48,49,50,51,52,53,54,55,56,57,97,98,99,100,101,102]:Int))) then
 let s22:List Int:=(List.drop ((intBit .and .u8 (PV.num (PV.fld p1 1)) 15)).toNat (List.take ((IntKind.wrap .u8 ((intBit .and .u8 (PV.num (PV.fld p1 1)) 15)+(1:Int)))).toNat [48,49,50,51,52,53,54,55,56,57,97,98,99,100,101,102]))
 bif (decide (List.length s21+List.length s22≤4611686018427387904)) then
 c79v1 (s21++s22) l2 fun n23 p24 l25 =>
 c80 p1 fun p26 =>
 w1 p26 0 l25
 else none
 else none
 else none
 else bif (decide ((PV.num (PV.fld p1 0))=(3:Int))) then
 bif (decide ((List.length (PV.els (PV.fld p1 2)):Int) < (2:Int))) then
 c79v1 [40] l2 fun n41 p42 l43 =>
 c80 p1 fun p44 =>
 w3 p44 0 l43
 else c79v1 [40] l2 fun n59 p60 l61 =>
 c80 p1 fun p62 =>
 w4 p62 0 l61
 else bif (decide ((PV.num (PV.fld p1 0))=(4:Int))) then
 c79v1 [76] l2 fun n77 p78 l79 =>
 c80 p1 fun p80 =>
 w1 p80 0 l79
 else bif (decide ((PV.num (PV.fld p1 0))=(5:Int))) then
 c79v1 [82] l2 fun n95 p96 l97 =>
 c80 p1 fun p98 =>
 w1 p98 0 l97
 else bif (decide ((PV.num (PV.fld p1 0))=(6:Int))) then
 c79v1 [91] l2 fun n113 p114 l115 =>
 c80 p1 fun p116 =>
 w7 p116 0 l115
 else bif (decide ((PV.num (PV.fld p1 0))=(7:Int))) then
 c79v1 [60] l2 fun n131 p132 l133 =>
 c80 p1 fun p134 =>
 w8 p134 0 l133
 else c79v1 [63] l2 fun n149 p150 l151 =>
 c80 p1 fun p152 =>
 w1 p152 0 l151

theorem f54v1_e_mem (k:Nat)(c54v1:Chb_10)(c79v1:Chb_12)(c80:Chb_13)(retF:(List PV)→R)(p1:PV)(l2:List PV):exec (f54v1_E k c54v1 c79v1 c80) f54v1_code (endK (f54v1_E k c54v1 c79v1 c80) Try.f54 [2000000,2000001] f54v1_un retF) ⟨[.ptr 2000000 [],.val 39 p1,.undef,.undef,.undef,.undef,.undef,.undef,.undef,.undef,.undef,.undef,.undef,.undef,.undef,.undef,.undef,.undef,.undef,.undef,.undef,.undef,.undef,.undef,.undef,.undef,.undef,.undef,.undef,.undef,.undef,.undef,.undef,.undef,.undef,.undef,.undef,.undef,.undef,.undef,.undef,.undef,.undef,.undef,.undef,.undef,.undef,.undef,.undef,.undef,.undef,.undef,.undef,.undef,.undef,.undef,.undef,.undef,.undef,.undef,.undef,.undef,.undef,.undef,.undef,.undef,.undef],[(2000000,.box 97 (.agg 97 [.ptr 2000000 [],.own 36 2000001])),(2000001,.row 5 l2)]⟩=f54v1_e c54v1 c79v1 c80 (fun y0=>retF y0) (fun p6 n11 l12=>f54v1_w1A k c54v1 c79v1 c80 retF p6 n11 l12) (fun p44 n49 l50=>f54v1_w3A k c54v1 c79v1 c80 retF p44 n49 l50) (fun p62 n67 l68=>f54v1_w4A k c54v1 c79v1 c80 retF p62 n67 l68) (fun p116 n121 l122=>f54v1_w7A k c54v1 c79v1 c80 retF p116 n121 l122) (fun p134 n139 l140=>f54v1_w8A k c54v1 c79v1 c80 retF p134 n139 l140) p1 l2:=by kernel_rfl

noncomputable def f54v1_N (k:Nat)(c54v1:Chb_10)(c79v1:Chb_12)(c80:Chb_13)(ret0:(List PV)→R)(p1:PV)(l2:List PV):R :=
 f54v1_e c54v1 c79v1 c80 ret0 (fun p6 n11 l12=>f54v1_w1N k c54v1 c79v1 c80 ret0 p6 n11 l12) (fun p44 n49 l50=>f54v1_w3N k c54v1 c79v1 c80 ret0 p44 n49 l50) (fun p62 n67 l68=>f54v1_w4N k c54v1 c79v1 c80 ret0 p62 n67 l68) (fun p116 n121 l122=>f54v1_w7N k c54v1 c79v1 c80 ret0 p116 n121 l122) (fun p134 n139 l140=>f54v1_w8N k c54v1 c79v1 c80 ret0 p134 n139 l140) p1 l2
theorem f54v1_eq (k:Nat)(c54v1:Chb_10)(c79v1:Chb_12)(c80:Chb_13)(retF:(List PV)→R)(p1:PV)(l2:List PV):exec (f54v1_E k c54v1 c79v1 c80) f54v1_code (endK (f54v1_E k c54v1 c79v1 c80) Try.f54 [2000000,2000001] f54v1_un retF) ⟨[.ptr 2000000 [],.val 39 p1,.undef,.undef,.undef,.undef,.undef,.undef,.undef,.undef,.undef,.undef,.undef,.undef,.undef,.undef,.undef,.undef,.undef,.undef,.undef,.undef,.undef,.undef,.undef,.undef,.undef,.undef,.undef,.undef,.undef,.undef,.undef,.undef,.undef,.undef,.undef,.undef,.undef,.undef,.undef,.undef,.undef,.undef,.undef,.undef,.undef,.undef,.undef,.undef,.undef,.undef,.undef,.undef,.undef,.undef,.undef,.undef,.undef,.undef,.undef,.undef,.undef,.undef,.undef,.undef,.undef],[(2000000,.box 97 (.agg 97 [.ptr 2000000 [],.own 36 2000001])),(2000001,.row 5 l2)]⟩=f54v1_N k c54v1 c79v1 c80 (fun y0=>retF y0) p1 l2 :=
 (f54v1_e_mem k c54v1 c79v1 c80 retF p1 l2).trans (by rw [show (fun p6 n11 l12=>f54v1_w1A k c54v1 c79v1 c80 retF p6 n11 l12)=(fun p6 n11 l12=>f54v1_w1N k c54v1 c79v1 c80 (fun y0=>retF y0) p6 n11 l12) from funext fun p6=>funext fun n11=>funext fun l12=>f54v1_w1_eq k c54v1 c79v1 c80 retF p6 n11 l12,show (fun p44 n49 l50=>f54v1_w3A k c54v1 c79v1 c80 retF p44 n49 l50)=(fun p44 n49 l50=>f54v1_w3N k c54v1 c79v1 c80 (fun y0=>retF y0) p44 n49 l50) from funext fun p44=>funext fun n49=>funext fun l50=>f54v1_w3_eq k c54v1 c79v1 c80 retF p44 n49 l50,show (fun p62 n67 l68=>f54v1_w4A k c54v1 c79v1 c80 retF p62 n67 l68)=(fun p62 n67 l68=>f54v1_w4N k c54v1 c79v1 c80 (fun y0=>retF y0) p62 n67 l68) from funext fun p62=>funext fun n67=>funext fun l68=>f54v1_w4_eq k c54v1 c79v1 c80 retF p62 n67 l68,show (fun p116 n121 l122=>f54v1_w7A k c54v1 c79v1 c80 retF p116 n121 l122)=(fun p116 n121 l122=>f54v1_w7N k c54v1 c79v1 c80 (fun y0=>retF y0) p116 n121 l122) from funext fun p116=>funext fun n121=>funext fun l122=>f54v1_w7_eq k c54v1 c79v1 c80 retF p116 n121 l122,show (fun p134 n139 l140=>f54v1_w8A k c54v1 c79v1 c80 retF p134 n139 l140)=(fun p134 n139 l140=>f54v1_w8N k c54v1 c79v1 c80 (fun y0=>retF y0) p134 n139 l140) from funext fun p134=>funext fun n139=>funext fun l140=>f54v1_w8_eq k c54v1 c79v1 c80 retF p134 n139 l140];rfl)

noncomputable def G54v1:Nat→PV→(List PV)→((List PV)→R)→R
 | 0,_,_,_=>none
 | k+1,p1,l2,ret0=>f54v1_N k (G54v1 k) (G79v1 k) (G80 k) ret0 p1 l2
theorem S54v1:∀ k,Snd Try.prog 54 f54v1_I f54v1_O (fun x ret=>G54v1 k x.1 x.2 (fun y0=>ret y0))
 | 0=>snd_none
 | k+1=>snd_step (E:=f54v1_E k (G54v1 k) (G79v1 k) (G80 k)) rfl laidOut noNums (orc_ok (S54v1 k).o f54v1_D_ok (orc_ok (S79v1 k).o f79v1_D_ok (orc_ok (S80 k).o f80_D_ok orc0_ok))) (f:=54) (fn:=Try.f54) (code:=f54v1_code) Try.func54 (by kernel_rfl) (drawsOk_of laidOut (orc_ok (S54v1 k).o f54v1_D_ok (orc_ok (S79v1 k).o f79v1_D_ok (orc_ok (S80 k).o f80_D_ok orc0_ok))) mixed (by kernel_rfl)) f54v1_un f54v1_un_ok [2000000,2000001] (fun _=>rfl)
   (fun x ret=>f54v1_eq k (G54v1 k) (G79v1 k) (G80 k) ret x.1 x.2)

noncomputable def f54_I:PV × PV × (List PV)→List SV × Obs:=fun x=>([.ptr 2000000 [],.val 39 x.1],[(2000000,.box 97 (.agg 97 [.val 95 x.2.1,.own 36 2000001])),(2000001,.row 5 x.2.2)])
noncomputable def f54_D:List SV→Obs→Option (PV × PV × (List PV))
 | [.ptr 2000000 [],.val 39 p1],[(2000000,.box 97 (.agg 97 [.val 95 p2,.own 36 2000001])),(2000001,.row 5 l3)]=>some (p1,p2,l3)
 | _,_=>none
theorem f54_D_ok (args:List SV)(B:Obs)(x:PV × PV × (List PV))(h:f54_D args B=some x):f54_I x=(args,B):=by
 unfold f54_D at h
 split at h
 ·injection h with h;subst h;rfl
 ·cases h
noncomputable def f54_O:(List PV)→Out:=(fun y=>([],[(2000000,.box 97 (.agg 97 [.ptr 2000000 [],.own 36 2000001])),(2000001,.row 5 y)]))
noncomputable def f54_un:Out→Option ((List PV))
 | ([],[(2000000,.box 97 (.agg 97 [.ptr 2000000 [],.own 36 2000001])),(2000001,.row 5 y0)])=>some y0
 | _=>none
theorem f54_un_ok (o:Out)(y:(List PV))(h:f54_un o=some y):o=f54_O y:=by
 unfold f54_un at h
 split at h
 ·injection h with h;subst h;rfl
 ·cases h
noncomputable def f54_msk:Nat→Option (List Nat):=fun key=>bif key==63 then some [0,5,49,50,51] else none
noncomputable def f54_C (c54v1:Chb_10)(c79:Chb_14)(c79v1:Chb_12)(c80:Chb_13):Oracle:=orc 54 f54v1_D f54v1_O (fun x ret=>c54v1 x.1 x.2 (fun y0=>ret y0)) <| orc 79 f79_D f79_O (fun x ret=>c79 x.1 x.2.1 x.2.2 (fun y0 y1 y2=>ret (y0,y1,y2))) <| orc 79 f79v1_D f79v1_O (fun x ret=>c79v1 x.1 x.2 (fun y0 y1 y2=>ret (y0,y1,y2))) <| orc 80 f80_D f80_O (fun x ret=>c80 x (fun y0=>ret y0)) <| orc0
noncomputable def f54_E (k:Nat)(c54v1:Chb_10)(c79:Chb_14)(c79v1:Chb_12)(c80:Chb_13):Env:={ P:=Try.prog,nilOwn:=fun d=>false,fldOwn:=fun d i=>false,ownPar:=ownPars,ownRet:=false,hpD:=fun d=>false,hpF:=hpFs,hpNew:=false,mask:=f54_msk,fuel:=k,C:=f54_C c54v1 c79 c79v1 c80 }
noncomputable def f54_code:Code:=Try.f54.body.getD .skip
noncomputable def f54_cw1:Code:=subC f54_code [1,1,1,1,0,1,0,0]
noncomputable def f54_hw1_0 (p7:PV)(n12:Int)(l13:List PV):St:=⟨[.ptr 2000000 [],.dead,.dead,.dead,.dead,.str [],.dead,.dead,.dead,.dead,.dead,.dead,.dead,.dead,.dead,.dead,.dead,.dead,.dead,.dead,.dead,.dead,.dead,.dead,.dead,.dead,.dead,.dead,.dead,.dead,.dead,.dead,.dead,.dead,.dead,.dead,.dead,.dead,.dead,.dead,.dead,.dead,.dead,.dead,.dead,.dead,.dead,.dead,.dead,.val 37 p7,.int .i64 (List.length (PV.els p7):Int),.int .i64 n12,.dead,.dead,.dead,.dead,.dead,.dead,.dead,.dead,.dead,.dead,.dead,.dead,.dead,.dead,.dead],[(2000000,.box 97 (.agg 97 [.ptr 2000000 [],.own 36 2000001])),(2000001,.row 5 l13)]⟩
noncomputable def f54_w1A (k:Nat)(c54v1:Chb_10)(c79:Chb_14)(c79v1:Chb_12)(c80:Chb_13)(retF:(List PV)→R)(p7:PV)(n12:Int)(l13:List PV):R:=loopM (f54_E k c54v1 c79 c79v1 c80) f54_cw1 (kont (f54_E k c54v1 c79 c79v1 c80) f54_code [1,1,1,1,0,1,0] (endK (f54_E k c54v1 c79 c79v1 c80) Try.f54 [2000000,2000001] f54_un retF)) k (f54_hw1_0 p7 n12 l13)
noncomputable def f54_w1b0 (c54v1:Chb_10)(c79:Chb_14)(c79v1:Chb_12)(c80:Chb_13)(ret0:(List PV)→R)(next_w1_0:Int→(List PV)→R)(p7:PV)(n12:Int)(l13:List PV):R :=
 bif (decide (n12 < (List.length (PV.els p7):Int))) then
 bif (true&&decide ((0:Int)≤n12)&&decide (n12 < (List.length (PV.els p7):Int))) then
 bif (decide ((0:Int) < n12)) then
 c79v1 [44] l13 fun n14 p15 l16 =>
 c54v1 (List.getD (PV.els p7) (n12).toNat PV.nil) l16 fun l17 =>
 next_w1_0 (IntKind.wrap .i64 (n12+(1:Int))) l17
 else c54v1 (List.getD (PV.els p7) (n12).toNat PV.nil) l13 fun l18 =>
 next_w1_0 (IntKind.wrap .i64 (n12+(1:Int))) l18
 else none
 else c79v1 [] l13 fun n19 p20 l21 =>
 ret0 l21

theorem f54_w1b0_mem (k:Nat)(c54v1:Chb_10)(c79:Chb_14)(c79v1:Chb_12)(c80:Chb_13)(retF:(List PV)→R)(NX_w1:St→R)(p7:PV)(n12:Int)(l13:List PV):exec (f54_E k c54v1 c79 c79v1 c80) f54_cw1 (purgeK (f54_E k c54v1 c79 c79v1 c80) f54_cw1 (loopK NX_w1 (kont (f54_E k c54v1 c79 c79v1 c80) f54_code [1,1,1,1,0,1,0] (endK (f54_E k c54v1 c79 c79v1 c80) Try.f54 [2000000,2000001] f54_un retF)))) (f54_hw1_0 p7 n12 l13)=f54_w1b0 c54v1 c79 c79v1 c80 (fun y0=>retF y0) (fun n12 l13=>NX_w1 (f54_hw1_0 p7 n12 l13)) p7 n12 l13:=by kernel_rfl

noncomputable def f54_w1b0N (k:Nat)(c54v1:Chb_10)(c79:Chb_14)(c79v1:Chb_12)(c80:Chb_13)(ret0:(List PV)→R)(next_w1_0:Int→(List PV)→R)(p7:PV)(n12:Int)(l13:List PV):R :=
 f54_w1b0 c54v1 c79 c79v1 c80 ret0 next_w1_0 p7 n12 l13
theorem f54_w1b0_eq (k:Nat)(c54v1:Chb_10)(c79:Chb_14)(c79v1:Chb_12)(c80:Chb_13)(retF:(List PV)→R)(NX_w1:St→R)(p7:PV)(n12:Int)(l13:List PV):exec (f54_E k c54v1 c79 c79v1 c80) f54_cw1 (purgeK (f54_E k c54v1 c79 c79v1 c80) f54_cw1 (loopK NX_w1 (kont (f54_E k c54v1 c79 c79v1 c80) f54_code [1,1,1,1,0,1,0] (endK (f54_E k c54v1 c79 c79v1 c80) Try.f54 [2000000,2000001] f54_un retF)))) (f54_hw1_0 p7 n12 l13)=f54_w1b0N k c54v1 c79 c79v1 c80 (fun y0=>retF y0) (fun n12 l13=>NX_w1 (f54_hw1_0 p7 n12 l13)) p7 n12 l13 :=
 (f54_w1b0_mem k c54v1 c79 c79v1 c80 retF NX_w1 p7 n12 l13)

noncomputable def f54_w1B (k:Nat)(c54v1:Chb_10)(c79:Chb_14)(c79v1:Chb_12)(c80:Chb_13)(ret0:(List PV)→R)(p7:PV)(nx:Int × (List PV)→R):Int × (List PV)→R:=(fun s=>f54_w1b0N k c54v1 c79 c79v1 c80 ret0 (fun n12 l13=>nx (n12,l13)) p7 s.1 s.2)
noncomputable def f54_w1N (k:Nat)(c54v1:Chb_10)(c79:Chb_14)(c79v1:Chb_12)(c80:Chb_13)(ret0:(List PV)→R)(p7:PV)(n12:Int)(l13:List PV):R:=loopR (f54_w1B k c54v1 c79 c79v1 c80 ret0 p7) k (n12,l13)
theorem f54_w1_eq (k:Nat)(c54v1:Chb_10)(c79:Chb_14)(c79v1:Chb_12)(c80:Chb_13)(retF:(List PV)→R)(p7:PV)(n12:Int)(l13:List PV):f54_w1A k c54v1 c79 c79v1 c80 retF p7 n12 l13=f54_w1N k c54v1 c79 c79v1 c80 (fun y0=>retF y0) p7 n12 l13 :=
 Eq.mp (by kernel_rfl) (loop_sim (E:=(f54_E k c54v1 c79 c79v1 c80)) (c:=f54_cw1) (K:=(kont (f54_E k c54v1 c79 c79v1 c80) f54_code [1,1,1,1,0,1,0] (endK (f54_E k c54v1 c79 c79v1 c80) Try.f54 [2000000,2000001] f54_un retF))) (S:=Int × (List PV)) (fun s=>f54_hw1_0 p7 s.1 s.2) (f54_w1B k c54v1 c79 c79v1 c80 (fun y0=>retF y0) p7) (fun NX s=>by
  exact Eq.mp (by kernel_rfl) (f54_w1b0_eq k c54v1 c79 c79v1 c80 retF NX p7 s.1 s.2)) k (n12,l13))

noncomputable def f54_cw3:Code:=subC f54_code [1,1,1,1,0,1,0,0]
noncomputable def f54_hw3_0 (p45:PV)(n50:Int)(l51:List PV):St:=⟨[.ptr 2000000 [],.dead,.dead,.dead,.dead,.str [44,41],.dead,.dead,.dead,.dead,.dead,.dead,.dead,.dead,.dead,.dead,.dead,.dead,.dead,.dead,.dead,.dead,.dead,.dead,.dead,.dead,.dead,.dead,.dead,.dead,.dead,.dead,.dead,.dead,.dead,.dead,.dead,.dead,.dead,.dead,.dead,.dead,.dead,.dead,.dead,.dead,.dead,.dead,.dead,.val 37 p45,.int .i64 (List.length (PV.els p45):Int),.int .i64 n50,.dead,.dead,.dead,.dead,.dead,.dead,.dead,.dead,.dead,.dead,.dead,.dead,.dead,.dead,.dead],[(2000000,.box 97 (.agg 97 [.ptr 2000000 [],.own 36 2000001])),(2000001,.row 5 l51)]⟩
noncomputable def f54_w3A (k:Nat)(c54v1:Chb_10)(c79:Chb_14)(c79v1:Chb_12)(c80:Chb_13)(retF:(List PV)→R)(p45:PV)(n50:Int)(l51:List PV):R:=loopM (f54_E k c54v1 c79 c79v1 c80) f54_cw3 (kont (f54_E k c54v1 c79 c79v1 c80) f54_code [1,1,1,1,0,1,0] (endK (f54_E k c54v1 c79 c79v1 c80) Try.f54 [2000000,2000001] f54_un retF)) k (f54_hw3_0 p45 n50 l51)
noncomputable def f54_w3b0 (c54v1:Chb_10)(c79:Chb_14)(c79v1:Chb_12)(c80:Chb_13)(ret0:(List PV)→R)(next_w3_0:Int→(List PV)→R)(p45:PV)(n50:Int)(l51:List PV):R :=
 bif (decide (n50 < (List.length (PV.els p45):Int))) then
 bif (true&&decide ((0:Int)≤n50)&&decide (n50 < (List.length (PV.els p45):Int))) then
 bif (decide ((0:Int) < n50)) then
 c79v1 [44] l51 fun n52 p53 l54 =>
 c54v1 (List.getD (PV.els p45) (n50).toNat PV.nil) l54 fun l55 =>
 next_w3_0 (IntKind.wrap .i64 (n50+(1:Int))) l55
 else c54v1 (List.getD (PV.els p45) (n50).toNat PV.nil) l51 fun l56 =>
 next_w3_0 (IntKind.wrap .i64 (n50+(1:Int))) l56
 else none
 else c79v1 [44,41] l51 fun n57 p58 l59 =>
 ret0 l59

theorem f54_w3b0_mem (k:Nat)(c54v1:Chb_10)(c79:Chb_14)(c79v1:Chb_12)(c80:Chb_13)(retF:(List PV)→R)(NX_w3:St→R)(p45:PV)(n50:Int)(l51:List PV):exec (f54_E k c54v1 c79 c79v1 c80) f54_cw3 (purgeK (f54_E k c54v1 c79 c79v1 c80) f54_cw3 (loopK NX_w3 (kont (f54_E k c54v1 c79 c79v1 c80) f54_code [1,1,1,1,0,1,0] (endK (f54_E k c54v1 c79 c79v1 c80) Try.f54 [2000000,2000001] f54_un retF)))) (f54_hw3_0 p45 n50 l51)=f54_w3b0 c54v1 c79 c79v1 c80 (fun y0=>retF y0) (fun n50 l51=>NX_w3 (f54_hw3_0 p45 n50 l51)) p45 n50 l51:=by kernel_rfl

noncomputable def f54_w3b0N (k:Nat)(c54v1:Chb_10)(c79:Chb_14)(c79v1:Chb_12)(c80:Chb_13)(ret0:(List PV)→R)(next_w3_0:Int→(List PV)→R)(p45:PV)(n50:Int)(l51:List PV):R :=
 f54_w3b0 c54v1 c79 c79v1 c80 ret0 next_w3_0 p45 n50 l51
theorem f54_w3b0_eq (k:Nat)(c54v1:Chb_10)(c79:Chb_14)(c79v1:Chb_12)(c80:Chb_13)(retF:(List PV)→R)(NX_w3:St→R)(p45:PV)(n50:Int)(l51:List PV):exec (f54_E k c54v1 c79 c79v1 c80) f54_cw3 (purgeK (f54_E k c54v1 c79 c79v1 c80) f54_cw3 (loopK NX_w3 (kont (f54_E k c54v1 c79 c79v1 c80) f54_code [1,1,1,1,0,1,0] (endK (f54_E k c54v1 c79 c79v1 c80) Try.f54 [2000000,2000001] f54_un retF)))) (f54_hw3_0 p45 n50 l51)=f54_w3b0N k c54v1 c79 c79v1 c80 (fun y0=>retF y0) (fun n50 l51=>NX_w3 (f54_hw3_0 p45 n50 l51)) p45 n50 l51 :=
 (f54_w3b0_mem k c54v1 c79 c79v1 c80 retF NX_w3 p45 n50 l51)

noncomputable def f54_w3B (k:Nat)(c54v1:Chb_10)(c79:Chb_14)(c79v1:Chb_12)(c80:Chb_13)(ret0:(List PV)→R)(p45:PV)(nx:Int × (List PV)→R):Int × (List PV)→R:=(fun s=>f54_w3b0N k c54v1 c79 c79v1 c80 ret0 (fun n50 l51=>nx (n50,l51)) p45 s.1 s.2)
noncomputable def f54_w3N (k:Nat)(c54v1:Chb_10)(c79:Chb_14)(c79v1:Chb_12)(c80:Chb_13)(ret0:(List PV)→R)(p45:PV)(n50:Int)(l51:List PV):R:=loopR (f54_w3B k c54v1 c79 c79v1 c80 ret0 p45) k (n50,l51)
theorem f54_w3_eq (k:Nat)(c54v1:Chb_10)(c79:Chb_14)(c79v1:Chb_12)(c80:Chb_13)(retF:(List PV)→R)(p45:PV)(n50:Int)(l51:List PV):f54_w3A k c54v1 c79 c79v1 c80 retF p45 n50 l51=f54_w3N k c54v1 c79 c79v1 c80 (fun y0=>retF y0) p45 n50 l51 :=
 Eq.mp (by kernel_rfl) (loop_sim (E:=(f54_E k c54v1 c79 c79v1 c80)) (c:=f54_cw3) (K:=(kont (f54_E k c54v1 c79 c79v1 c80) f54_code [1,1,1,1,0,1,0] (endK (f54_E k c54v1 c79 c79v1 c80) Try.f54 [2000000,2000001] f54_un retF))) (S:=Int × (List PV)) (fun s=>f54_hw3_0 p45 s.1 s.2) (f54_w3B k c54v1 c79 c79v1 c80 (fun y0=>retF y0) p45) (fun NX s=>by
  exact Eq.mp (by kernel_rfl) (f54_w3b0_eq k c54v1 c79 c79v1 c80 retF NX p45 s.1 s.2)) k (n50,l51))

noncomputable def f54_cw4:Code:=subC f54_code [1,1,1,1,0,1,0,0]
noncomputable def f54_hw4_0 (p63:PV)(n68:Int)(l69:List PV):St:=⟨[.ptr 2000000 [],.dead,.dead,.dead,.dead,.str [41],.dead,.dead,.dead,.dead,.dead,.dead,.dead,.dead,.dead,.dead,.dead,.dead,.dead,.dead,.dead,.dead,.dead,.dead,.dead,.dead,.dead,.dead,.dead,.dead,.dead,.dead,.dead,.dead,.dead,.dead,.dead,.dead,.dead,.dead,.dead,.dead,.dead,.dead,.dead,.dead,.dead,.dead,.dead,.val 37 p63,.int .i64 (List.length (PV.els p63):Int),.int .i64 n68,.dead,.dead,.dead,.dead,.dead,.dead,.dead,.dead,.dead,.dead,.dead,.dead,.dead,.dead,.dead],[(2000000,.box 97 (.agg 97 [.ptr 2000000 [],.own 36 2000001])),(2000001,.row 5 l69)]⟩
noncomputable def f54_w4A (k:Nat)(c54v1:Chb_10)(c79:Chb_14)(c79v1:Chb_12)(c80:Chb_13)(retF:(List PV)→R)(p63:PV)(n68:Int)(l69:List PV):R:=loopM (f54_E k c54v1 c79 c79v1 c80) f54_cw4 (kont (f54_E k c54v1 c79 c79v1 c80) f54_code [1,1,1,1,0,1,0] (endK (f54_E k c54v1 c79 c79v1 c80) Try.f54 [2000000,2000001] f54_un retF)) k (f54_hw4_0 p63 n68 l69)
noncomputable def f54_w4b0 (c54v1:Chb_10)(c79:Chb_14)(c79v1:Chb_12)(c80:Chb_13)(ret0:(List PV)→R)(next_w4_0:Int→(List PV)→R)(p63:PV)(n68:Int)(l69:List PV):R :=
 bif (decide (n68 < (List.length (PV.els p63):Int))) then
 bif (true&&decide ((0:Int)≤n68)&&decide (n68 < (List.length (PV.els p63):Int))) then
 bif (decide ((0:Int) < n68)) then
 c79v1 [44] l69 fun n70 p71 l72 =>
 c54v1 (List.getD (PV.els p63) (n68).toNat PV.nil) l72 fun l73 =>
 next_w4_0 (IntKind.wrap .i64 (n68+(1:Int))) l73
 else c54v1 (List.getD (PV.els p63) (n68).toNat PV.nil) l69 fun l74 =>
 next_w4_0 (IntKind.wrap .i64 (n68+(1:Int))) l74
 else none
 else c79v1 [41] l69 fun n75 p76 l77 =>
 ret0 l77

theorem f54_w4b0_mem (k:Nat)(c54v1:Chb_10)(c79:Chb_14)(c79v1:Chb_12)(c80:Chb_13)(retF:(List PV)→R)(NX_w4:St→R)(p63:PV)(n68:Int)(l69:List PV):exec (f54_E k c54v1 c79 c79v1 c80) f54_cw4 (purgeK (f54_E k c54v1 c79 c79v1 c80) f54_cw4 (loopK NX_w4 (kont (f54_E k c54v1 c79 c79v1 c80) f54_code [1,1,1,1,0,1,0] (endK (f54_E k c54v1 c79 c79v1 c80) Try.f54 [2000000,2000001] f54_un retF)))) (f54_hw4_0 p63 n68 l69)=f54_w4b0 c54v1 c79 c79v1 c80 (fun y0=>retF y0) (fun n68 l69=>NX_w4 (f54_hw4_0 p63 n68 l69)) p63 n68 l69:=by kernel_rfl

noncomputable def f54_w4b0N (k:Nat)(c54v1:Chb_10)(c79:Chb_14)(c79v1:Chb_12)(c80:Chb_13)(ret0:(List PV)→R)(next_w4_0:Int→(List PV)→R)(p63:PV)(n68:Int)(l69:List PV):R :=
 f54_w4b0 c54v1 c79 c79v1 c80 ret0 next_w4_0 p63 n68 l69
theorem f54_w4b0_eq (k:Nat)(c54v1:Chb_10)(c79:Chb_14)(c79v1:Chb_12)(c80:Chb_13)(retF:(List PV)→R)(NX_w4:St→R)(p63:PV)(n68:Int)(l69:List PV):exec (f54_E k c54v1 c79 c79v1 c80) f54_cw4 (purgeK (f54_E k c54v1 c79 c79v1 c80) f54_cw4 (loopK NX_w4 (kont (f54_E k c54v1 c79 c79v1 c80) f54_code [1,1,1,1,0,1,0] (endK (f54_E k c54v1 c79 c79v1 c80) Try.f54 [2000000,2000001] f54_un retF)))) (f54_hw4_0 p63 n68 l69)=f54_w4b0N k c54v1 c79 c79v1 c80 (fun y0=>retF y0) (fun n68 l69=>NX_w4 (f54_hw4_0 p63 n68 l69)) p63 n68 l69 :=
 (f54_w4b0_mem k c54v1 c79 c79v1 c80 retF NX_w4 p63 n68 l69)

noncomputable def f54_w4B (k:Nat)(c54v1:Chb_10)(c79:Chb_14)(c79v1:Chb_12)(c80:Chb_13)(ret0:(List PV)→R)(p63:PV)(nx:Int × (List PV)→R):Int × (List PV)→R:=(fun s=>f54_w4b0N k c54v1 c79 c79v1 c80 ret0 (fun n68 l69=>nx (n68,l69)) p63 s.1 s.2)
noncomputable def f54_w4N (k:Nat)(c54v1:Chb_10)(c79:Chb_14)(c79v1:Chb_12)(c80:Chb_13)(ret0:(List PV)→R)(p63:PV)(n68:Int)(l69:List PV):R:=loopR (f54_w4B k c54v1 c79 c79v1 c80 ret0 p63) k (n68,l69)
theorem f54_w4_eq (k:Nat)(c54v1:Chb_10)(c79:Chb_14)(c79v1:Chb_12)(c80:Chb_13)(retF:(List PV)→R)(p63:PV)(n68:Int)(l69:List PV):f54_w4A k c54v1 c79 c79v1 c80 retF p63 n68 l69=f54_w4N k c54v1 c79 c79v1 c80 (fun y0=>retF y0) p63 n68 l69 :=
 Eq.mp (by kernel_rfl) (loop_sim (E:=(f54_E k c54v1 c79 c79v1 c80)) (c:=f54_cw4) (K:=(kont (f54_E k c54v1 c79 c79v1 c80) f54_code [1,1,1,1,0,1,0] (endK (f54_E k c54v1 c79 c79v1 c80) Try.f54 [2000000,2000001] f54_un retF))) (S:=Int × (List PV)) (fun s=>f54_hw4_0 p63 s.1 s.2) (f54_w4B k c54v1 c79 c79v1 c80 (fun y0=>retF y0) p63) (fun NX s=>by
  exact Eq.mp (by kernel_rfl) (f54_w4b0_eq k c54v1 c79 c79v1 c80 retF NX p63 s.1 s.2)) k (n68,l69))

noncomputable def f54_cw7:Code:=subC f54_code [1,1,1,1,0,1,0,0]
noncomputable def f54_hw7_0 (p117:PV)(n122:Int)(l123:List PV):St:=⟨[.ptr 2000000 [],.dead,.dead,.dead,.dead,.str [93],.dead,.dead,.dead,.dead,.dead,.dead,.dead,.dead,.dead,.dead,.dead,.dead,.dead,.dead,.dead,.dead,.dead,.dead,.dead,.dead,.dead,.dead,.dead,.dead,.dead,.dead,.dead,.dead,.dead,.dead,.dead,.dead,.dead,.dead,.dead,.dead,.dead,.dead,.dead,.dead,.dead,.dead,.dead,.val 37 p117,.int .i64 (List.length (PV.els p117):Int),.int .i64 n122,.dead,.dead,.dead,.dead,.dead,.dead,.dead,.dead,.dead,.dead,.dead,.dead,.dead,.dead,.dead],[(2000000,.box 97 (.agg 97 [.ptr 2000000 [],.own 36 2000001])),(2000001,.row 5 l123)]⟩
noncomputable def f54_w7A (k:Nat)(c54v1:Chb_10)(c79:Chb_14)(c79v1:Chb_12)(c80:Chb_13)(retF:(List PV)→R)(p117:PV)(n122:Int)(l123:List PV):R:=loopM (f54_E k c54v1 c79 c79v1 c80) f54_cw7 (kont (f54_E k c54v1 c79 c79v1 c80) f54_code [1,1,1,1,0,1,0] (endK (f54_E k c54v1 c79 c79v1 c80) Try.f54 [2000000,2000001] f54_un retF)) k (f54_hw7_0 p117 n122 l123)
noncomputable def f54_w7b0 (c54v1:Chb_10)(c79:Chb_14)(c79v1:Chb_12)(c80:Chb_13)(ret0:(List PV)→R)(next_w7_0:Int→(List PV)→R)(p117:PV)(n122:Int)(l123:List PV):R :=
 bif (decide (n122 < (List.length (PV.els p117):Int))) then
 bif (true&&decide ((0:Int)≤n122)&&decide (n122 < (List.length (PV.els p117):Int))) then
 bif (decide ((0:Int) < n122)) then
 c79v1 [44] l123 fun n124 p125 l126 =>
 c54v1 (List.getD (PV.els p117) (n122).toNat PV.nil) l126 fun l127 =>
 next_w7_0 (IntKind.wrap .i64 (n122+(1:Int))) l127
 else c54v1 (List.getD (PV.els p117) (n122).toNat PV.nil) l123 fun l128 =>
 next_w7_0 (IntKind.wrap .i64 (n122+(1:Int))) l128
 else none
 else c79v1 [93] l123 fun n129 p130 l131 =>
 ret0 l131

theorem f54_w7b0_mem (k:Nat)(c54v1:Chb_10)(c79:Chb_14)(c79v1:Chb_12)(c80:Chb_13)(retF:(List PV)→R)(NX_w7:St→R)(p117:PV)(n122:Int)(l123:List PV):exec (f54_E k c54v1 c79 c79v1 c80) f54_cw7 (purgeK (f54_E k c54v1 c79 c79v1 c80) f54_cw7 (loopK NX_w7 (kont (f54_E k c54v1 c79 c79v1 c80) f54_code [1,1,1,1,0,1,0] (endK (f54_E k c54v1 c79 c79v1 c80) Try.f54 [2000000,2000001] f54_un retF)))) (f54_hw7_0 p117 n122 l123)=f54_w7b0 c54v1 c79 c79v1 c80 (fun y0=>retF y0) (fun n122 l123=>NX_w7 (f54_hw7_0 p117 n122 l123)) p117 n122 l123:=by kernel_rfl

noncomputable def f54_w7b0N (k:Nat)(c54v1:Chb_10)(c79:Chb_14)(c79v1:Chb_12)(c80:Chb_13)(ret0:(List PV)→R)(next_w7_0:Int→(List PV)→R)(p117:PV)(n122:Int)(l123:List PV):R :=
 f54_w7b0 c54v1 c79 c79v1 c80 ret0 next_w7_0 p117 n122 l123
theorem f54_w7b0_eq (k:Nat)(c54v1:Chb_10)(c79:Chb_14)(c79v1:Chb_12)(c80:Chb_13)(retF:(List PV)→R)(NX_w7:St→R)(p117:PV)(n122:Int)(l123:List PV):exec (f54_E k c54v1 c79 c79v1 c80) f54_cw7 (purgeK (f54_E k c54v1 c79 c79v1 c80) f54_cw7 (loopK NX_w7 (kont (f54_E k c54v1 c79 c79v1 c80) f54_code [1,1,1,1,0,1,0] (endK (f54_E k c54v1 c79 c79v1 c80) Try.f54 [2000000,2000001] f54_un retF)))) (f54_hw7_0 p117 n122 l123)=f54_w7b0N k c54v1 c79 c79v1 c80 (fun y0=>retF y0) (fun n122 l123=>NX_w7 (f54_hw7_0 p117 n122 l123)) p117 n122 l123 :=
 (f54_w7b0_mem k c54v1 c79 c79v1 c80 retF NX_w7 p117 n122 l123)

noncomputable def f54_w7B (k:Nat)(c54v1:Chb_10)(c79:Chb_14)(c79v1:Chb_12)(c80:Chb_13)(ret0:(List PV)→R)(p117:PV)(nx:Int × (List PV)→R):Int × (List PV)→R:=(fun s=>f54_w7b0N k c54v1 c79 c79v1 c80 ret0 (fun n122 l123=>nx (n122,l123)) p117 s.1 s.2)
noncomputable def f54_w7N (k:Nat)(c54v1:Chb_10)(c79:Chb_14)(c79v1:Chb_12)(c80:Chb_13)(ret0:(List PV)→R)(p117:PV)(n122:Int)(l123:List PV):R:=loopR (f54_w7B k c54v1 c79 c79v1 c80 ret0 p117) k (n122,l123)
theorem f54_w7_eq (k:Nat)(c54v1:Chb_10)(c79:Chb_14)(c79v1:Chb_12)(c80:Chb_13)(retF:(List PV)→R)(p117:PV)(n122:Int)(l123:List PV):f54_w7A k c54v1 c79 c79v1 c80 retF p117 n122 l123=f54_w7N k c54v1 c79 c79v1 c80 (fun y0=>retF y0) p117 n122 l123 :=
 Eq.mp (by kernel_rfl) (loop_sim (E:=(f54_E k c54v1 c79 c79v1 c80)) (c:=f54_cw7) (K:=(kont (f54_E k c54v1 c79 c79v1 c80) f54_code [1,1,1,1,0,1,0] (endK (f54_E k c54v1 c79 c79v1 c80) Try.f54 [2000000,2000001] f54_un retF))) (S:=Int × (List PV)) (fun s=>f54_hw7_0 p117 s.1 s.2) (f54_w7B k c54v1 c79 c79v1 c80 (fun y0=>retF y0) p117) (fun NX s=>by
  exact Eq.mp (by kernel_rfl) (f54_w7b0_eq k c54v1 c79 c79v1 c80 retF NX p117 s.1 s.2)) k (n122,l123))

noncomputable def f54_cw8:Code:=subC f54_code [1,1,1,1,0,1,0,0]
noncomputable def f54_hw8_0 (p135:PV)(n140:Int)(l141:List PV):St:=⟨[.ptr 2000000 [],.dead,.dead,.dead,.dead,.str [62],.dead,.dead,.dead,.dead,.dead,.dead,.dead,.dead,.dead,.dead,.dead,.dead,.dead,.dead,.dead,.dead,.dead,.dead,.dead,.dead,.dead,.dead,.dead,.dead,.dead,.dead,.dead,.dead,.dead,.dead,.dead,.dead,.dead,.dead,.dead,.dead,.dead,.dead,.dead,.dead,.dead,.dead,.dead,.val 37 p135,.int .i64 (List.length (PV.els p135):Int),.int .i64 n140,.dead,.dead,.dead,.dead,.dead,.dead,.dead,.dead,.dead,.dead,.dead,.dead,.dead,.dead,.dead],[(2000000,.box 97 (.agg 97 [.ptr 2000000 [],.own 36 2000001])),(2000001,.row 5 l141)]⟩
noncomputable def f54_w8A (k:Nat)(c54v1:Chb_10)(c79:Chb_14)(c79v1:Chb_12)(c80:Chb_13)(retF:(List PV)→R)(p135:PV)(n140:Int)(l141:List PV):R:=loopM (f54_E k c54v1 c79 c79v1 c80) f54_cw8 (kont (f54_E k c54v1 c79 c79v1 c80) f54_code [1,1,1,1,0,1,0] (endK (f54_E k c54v1 c79 c79v1 c80) Try.f54 [2000000,2000001] f54_un retF)) k (f54_hw8_0 p135 n140 l141)
noncomputable def f54_w8b0 (c54v1:Chb_10)(c79:Chb_14)(c79v1:Chb_12)(c80:Chb_13)(ret0:(List PV)→R)(next_w8_0:Int→(List PV)→R)(p135:PV)(n140:Int)(l141:List PV):R :=
 bif (decide (n140 < (List.length (PV.els p135):Int))) then
 bif (true&&decide ((0:Int)≤n140)&&decide (n140 < (List.length (PV.els p135):Int))) then
 bif (decide ((0:Int) < n140)) then
 c79v1 [44] l141 fun n142 p143 l144 =>
 c54v1 (List.getD (PV.els p135) (n140).toNat PV.nil) l144 fun l145 =>
 next_w8_0 (IntKind.wrap .i64 (n140+(1:Int))) l145
 else c54v1 (List.getD (PV.els p135) (n140).toNat PV.nil) l141 fun l146 =>
 next_w8_0 (IntKind.wrap .i64 (n140+(1:Int))) l146
 else none
 else c79v1 [62] l141 fun n147 p148 l149 =>
 ret0 l149

theorem f54_w8b0_mem (k:Nat)(c54v1:Chb_10)(c79:Chb_14)(c79v1:Chb_12)(c80:Chb_13)(retF:(List PV)→R)(NX_w8:St→R)(p135:PV)(n140:Int)(l141:List PV):exec (f54_E k c54v1 c79 c79v1 c80) f54_cw8 (purgeK (f54_E k c54v1 c79 c79v1 c80) f54_cw8 (loopK NX_w8 (kont (f54_E k c54v1 c79 c79v1 c80) f54_code [1,1,1,1,0,1,0] (endK (f54_E k c54v1 c79 c79v1 c80) Try.f54 [2000000,2000001] f54_un retF)))) (f54_hw8_0 p135 n140 l141)=f54_w8b0 c54v1 c79 c79v1 c80 (fun y0=>retF y0) (fun n140 l141=>NX_w8 (f54_hw8_0 p135 n140 l141)) p135 n140 l141:=by kernel_rfl

noncomputable def f54_w8b0N (k:Nat)(c54v1:Chb_10)(c79:Chb_14)(c79v1:Chb_12)(c80:Chb_13)(ret0:(List PV)→R)(next_w8_0:Int→(List PV)→R)(p135:PV)(n140:Int)(l141:List PV):R :=
 f54_w8b0 c54v1 c79 c79v1 c80 ret0 next_w8_0 p135 n140 l141
theorem f54_w8b0_eq (k:Nat)(c54v1:Chb_10)(c79:Chb_14)(c79v1:Chb_12)(c80:Chb_13)(retF:(List PV)→R)(NX_w8:St→R)(p135:PV)(n140:Int)(l141:List PV):exec (f54_E k c54v1 c79 c79v1 c80) f54_cw8 (purgeK (f54_E k c54v1 c79 c79v1 c80) f54_cw8 (loopK NX_w8 (kont (f54_E k c54v1 c79 c79v1 c80) f54_code [1,1,1,1,0,1,0] (endK (f54_E k c54v1 c79 c79v1 c80) Try.f54 [2000000,2000001] f54_un retF)))) (f54_hw8_0 p135 n140 l141)=f54_w8b0N k c54v1 c79 c79v1 c80 (fun y0=>retF y0) (fun n140 l141=>NX_w8 (f54_hw8_0 p135 n140 l141)) p135 n140 l141 :=
 (f54_w8b0_mem k c54v1 c79 c79v1 c80 retF NX_w8 p135 n140 l141)

noncomputable def f54_w8B (k:Nat)(c54v1:Chb_10)(c79:Chb_14)(c79v1:Chb_12)(c80:Chb_13)(ret0:(List PV)→R)(p135:PV)(nx:Int × (List PV)→R):Int × (List PV)→R:=(fun s=>f54_w8b0N k c54v1 c79 c79v1 c80 ret0 (fun n140 l141=>nx (n140,l141)) p135 s.1 s.2)
noncomputable def f54_w8N (k:Nat)(c54v1:Chb_10)(c79:Chb_14)(c79v1:Chb_12)(c80:Chb_13)(ret0:(List PV)→R)(p135:PV)(n140:Int)(l141:List PV):R:=loopR (f54_w8B k c54v1 c79 c79v1 c80 ret0 p135) k (n140,l141)
theorem f54_w8_eq (k:Nat)(c54v1:Chb_10)(c79:Chb_14)(c79v1:Chb_12)(c80:Chb_13)(retF:(List PV)→R)(p135:PV)(n140:Int)(l141:List PV):f54_w8A k c54v1 c79 c79v1 c80 retF p135 n140 l141=f54_w8N k c54v1 c79 c79v1 c80 (fun y0=>retF y0) p135 n140 l141 :=
 Eq.mp (by kernel_rfl) (loop_sim (E:=(f54_E k c54v1 c79 c79v1 c80)) (c:=f54_cw8) (K:=(kont (f54_E k c54v1 c79 c79v1 c80) f54_code [1,1,1,1,0,1,0] (endK (f54_E k c54v1 c79 c79v1 c80) Try.f54 [2000000,2000001] f54_un retF))) (S:=Int × (List PV)) (fun s=>f54_hw8_0 p135 s.1 s.2) (f54_w8B k c54v1 c79 c79v1 c80 (fun y0=>retF y0) p135) (fun NX s=>by
  exact Eq.mp (by kernel_rfl) (f54_w8b0_eq k c54v1 c79 c79v1 c80 retF NX p135 s.1 s.2)) k (n140,l141))

noncomputable def f54_e (c54v1:Chb_10)(c79:Chb_14)(c79v1:Chb_12)(c80:Chb_13)(ret0:(List PV)→R)(w1:PV→Int→(List PV)→R)(w3:PV→Int→(List PV)→R)(w4:PV→Int→(List PV)→R)(w7:PV→Int→(List PV)→R)(w8:PV→Int→(List PV)→R)(p1:PV)(p2:PV)(l3:List PV):R :=
 bif (decide ((PV.num (PV.fld p1 0))=(1:Int))) then
 c79 [69] p2 l3 fun n4 p5 l6 =>
 c80 p1 fun p7 =>
 w1 p7 0 l6
 else bif (decide ((PV.num (PV.fld p1 0))=(2:Int))) then
 bif (decide ((0:Int)≤(Int.fdiv (PV.num (PV.fld p1 1)) (2 ^ (min ((4:Int)).toNat 8))))&&decide ((Int.fdiv (PV.num (PV.fld p1 1)) (2 ^ (min ((4:Int)).toNat 8)))≤(IntKind.wrap .u8 ((Int.fdiv (PV.num (PV.fld p1 1)) (2 ^ (min ((4:Int)).toNat 8)))+(1:Int))))&&decide ((IntKind.wrap .u8 ((Int.fdiv (PV.num (PV.fld p1 1)) (2 ^ (min ((4:Int)).toNat 8)))+(1:Int)))≤(List.length [48,49,50,51,52,53,54,55,56,57,97,98,99,100,101,102]:Int))) then
 let s22:List Int:=(List.drop ((Int.fdiv (PV.num (PV.fld p1 1)) (2 ^ (min ((4:Int)).toNat 8)))).toNat (List.take ((IntKind.wrap .u8 ((Int.fdiv (PV.num (PV.fld p1 1)) (2 ^ (min ((4:Int)).toNat 8)))+(1:Int)))).toNat [48,49,50,51,52,53,54,55,56,57,97,98,99,100,101,102]))
 bif (decide ((0:Int)≤(intBit .and .u8 (PV.num (PV.fld p1 1)) 15))&&decide ((intBit .and .u8 (PV.num (PV.fld p1 1)) 15)≤(IntKind.wrap .u8 ((intBit .and .u8 (PV.num (PV.fld p1 1)) 15)+(1:Int))))&&decide ((IntKind.wrap .u8 ((intBit .and .u8 (PV.num (PV.fld p1 1)) 15)+(1:Int)))≤(List.length [48,49,50,51,52,53,54,55,56,57,97,98,99,100,101,102]:Int))) then
 let s23:List Int:=(List.drop ((intBit .and .u8 (PV.num (PV.fld p1 1)) 15)).toNat (List.take ((IntKind.wrap .u8 ((intBit .and .u8 (PV.num (PV.fld p1 1)) 15)+(1:Int)))).toNat [48,49,50,51,52,53,54,55,56,57,97,98,99,100,101,102]))
 bif (decide (List.length s22+List.length s23≤4611686018427387904)) then
 c79 (s22++s23) p2 l3 fun n24 p25 l26 =>
 c80 p1 fun p27 =>
 w1 p27 0 l26
 else none
 else none
 else none
 else bif (decide ((PV.num (PV.fld p1 0))=(3:Int))) then
 bif (decide ((List.length (PV.els (PV.fld p1 2)):Int) < (2:Int))) then
 c79 [40] p2 l3 fun n42 p43 l44 =>
 c80 p1 fun p45 =>
 w3 p45 0 l44
 else c79 [40] p2 l3 fun n60 p61 l62 =>
 c80 p1 fun p63 =>
 w4 p63 0 l62
 else bif (decide ((PV.num (PV.fld p1 0))=(4:Int))) then
 c79 [76] p2 l3 fun n78 p79 l80 =>
 c80 p1 fun p81 =>
 w1 p81 0 l80
 else bif (decide ((PV.num (PV.fld p1 0))=(5:Int))) then
 c79 [82] p2 l3 fun n96 p97 l98 =>
 c80 p1 fun p99 =>
 w1 p99 0 l98
 else bif (decide ((PV.num (PV.fld p1 0))=(6:Int))) then
 c79 [91] p2 l3 fun n114 p115 l116 =>
 c80 p1 fun p117 =>
 w7 p117 0 l116
 else bif (decide ((PV.num (PV.fld p1 0))=(7:Int))) then
 c79 [60] p2 l3 fun n132 p133 l134 =>
 c80 p1 fun p135 =>
 w8 p135 0 l134
 else c79 [63] p2 l3 fun n150 p151 l152 =>
 c80 p1 fun p153 =>
 w1 p153 0 l152

theorem f54_e_mem (k:Nat)(c54v1:Chb_10)(c79:Chb_14)(c79v1:Chb_12)(c80:Chb_13)(retF:(List PV)→R)(p1:PV)(p2:PV)(l3:List PV):exec (f54_E k c54v1 c79 c79v1 c80) f54_code (endK (f54_E k c54v1 c79 c79v1 c80) Try.f54 [2000000,2000001] f54_un retF) ⟨[.ptr 2000000 [],.val 39 p1,.undef,.undef,.undef,.undef,.undef,.undef,.undef,.undef,.undef,.undef,.undef,.undef,.undef,.undef,.undef,.undef,.undef,.undef,.undef,.undef,.undef,.undef,.undef,.undef,.undef,.undef,.undef,.undef,.undef,.undef,.undef,.undef,.undef,.undef,.undef,.undef,.undef,.undef,.undef,.undef,.undef,.undef,.undef,.undef,.undef,.undef,.undef,.undef,.undef,.undef,.undef,.undef,.undef,.undef,.undef,.undef,.undef,.undef,.undef,.undef,.undef,.undef,.undef,.undef,.undef],[(2000000,.box 97 (.agg 97 [.val 95 p2,.own 36 2000001])),(2000001,.row 5 l3)]⟩=f54_e c54v1 c79 c79v1 c80 (fun y0=>retF y0) (fun p7 n12 l13=>f54_w1A k c54v1 c79 c79v1 c80 retF p7 n12 l13) (fun p45 n50 l51=>f54_w3A k c54v1 c79 c79v1 c80 retF p45 n50 l51) (fun p63 n68 l69=>f54_w4A k c54v1 c79 c79v1 c80 retF p63 n68 l69) (fun p117 n122 l123=>f54_w7A k c54v1 c79 c79v1 c80 retF p117 n122 l123) (fun p135 n140 l141=>f54_w8A k c54v1 c79 c79v1 c80 retF p135 n140 l141) p1 p2 l3:=by kernel_rfl

noncomputable def f54_N (k:Nat)(c54v1:Chb_10)(c79:Chb_14)(c79v1:Chb_12)(c80:Chb_13)(ret0:(List PV)→R)(p1:PV)(p2:PV)(l3:List PV):R :=
 f54_e c54v1 c79 c79v1 c80 ret0 (fun p7 n12 l13=>f54_w1N k c54v1 c79 c79v1 c80 ret0 p7 n12 l13) (fun p45 n50 l51=>f54_w3N k c54v1 c79 c79v1 c80 ret0 p45 n50 l51) (fun p63 n68 l69=>f54_w4N k c54v1 c79 c79v1 c80 ret0 p63 n68 l69) (fun p117 n122 l123=>f54_w7N k c54v1 c79 c79v1 c80 ret0 p117 n122 l123) (fun p135 n140 l141=>f54_w8N k c54v1 c79 c79v1 c80 ret0 p135 n140 l141) p1 p2 l3
theorem f54_eq (k:Nat)(c54v1:Chb_10)(c79:Chb_14)(c79v1:Chb_12)(c80:Chb_13)(retF:(List PV)→R)(p1:PV)(p2:PV)(l3:List PV):exec (f54_E k c54v1 c79 c79v1 c80) f54_code (endK (f54_E k c54v1 c79 c79v1 c80) Try.f54 [2000000,2000001] f54_un retF) ⟨[.ptr 2000000 [],.val 39 p1,.undef,.undef,.undef,.undef,.undef,.undef,.undef,.undef,.undef,.undef,.undef,.undef,.undef,.undef,.undef,.undef,.undef,.undef,.undef,.undef,.undef,.undef,.undef,.undef,.undef,.undef,.undef,.undef,.undef,.undef,.undef,.undef,.undef,.undef,.undef,.undef,.undef,.undef,.undef,.undef,.undef,.undef,.undef,.undef,.undef,.undef,.undef,.undef,.undef,.undef,.undef,.undef,.undef,.undef,.undef,.undef,.undef,.undef,.undef,.undef,.undef,.undef,.undef,.undef,.undef],[(2000000,.box 97 (.agg 97 [.val 95 p2,.own 36 2000001])),(2000001,.row 5 l3)]⟩=f54_N k c54v1 c79 c79v1 c80 (fun y0=>retF y0) p1 p2 l3 :=
 (f54_e_mem k c54v1 c79 c79v1 c80 retF p1 p2 l3).trans (by rw [show (fun p7 n12 l13=>f54_w1A k c54v1 c79 c79v1 c80 retF p7 n12 l13)=(fun p7 n12 l13=>f54_w1N k c54v1 c79 c79v1 c80 (fun y0=>retF y0) p7 n12 l13) from funext fun p7=>funext fun n12=>funext fun l13=>f54_w1_eq k c54v1 c79 c79v1 c80 retF p7 n12 l13,show (fun p45 n50 l51=>f54_w3A k c54v1 c79 c79v1 c80 retF p45 n50 l51)=(fun p45 n50 l51=>f54_w3N k c54v1 c79 c79v1 c80 (fun y0=>retF y0) p45 n50 l51) from funext fun p45=>funext fun n50=>funext fun l51=>f54_w3_eq k c54v1 c79 c79v1 c80 retF p45 n50 l51,show (fun p63 n68 l69=>f54_w4A k c54v1 c79 c79v1 c80 retF p63 n68 l69)=(fun p63 n68 l69=>f54_w4N k c54v1 c79 c79v1 c80 (fun y0=>retF y0) p63 n68 l69) from funext fun p63=>funext fun n68=>funext fun l69=>f54_w4_eq k c54v1 c79 c79v1 c80 retF p63 n68 l69,show (fun p117 n122 l123=>f54_w7A k c54v1 c79 c79v1 c80 retF p117 n122 l123)=(fun p117 n122 l123=>f54_w7N k c54v1 c79 c79v1 c80 (fun y0=>retF y0) p117 n122 l123) from funext fun p117=>funext fun n122=>funext fun l123=>f54_w7_eq k c54v1 c79 c79v1 c80 retF p117 n122 l123,show (fun p135 n140 l141=>f54_w8A k c54v1 c79 c79v1 c80 retF p135 n140 l141)=(fun p135 n140 l141=>f54_w8N k c54v1 c79 c79v1 c80 (fun y0=>retF y0) p135 n140 l141) from funext fun p135=>funext fun n140=>funext fun l141=>f54_w8_eq k c54v1 c79 c79v1 c80 retF p135 n140 l141];rfl)

noncomputable def G54:Nat→PV→PV→(List PV)→((List PV)→R)→R
 | 0,_,_,_,_=>none
 | k+1,p1,p2,l3,ret0=>f54_N k (G54v1 k) (G79 k) (G79v1 k) (G80 k) ret0 p1 p2 l3
theorem S54:∀ k,Snd Try.prog 54 f54_I f54_O (fun x ret=>G54 k x.1 x.2.1 x.2.2 (fun y0=>ret y0))
 | 0=>snd_none
 | k+1=>snd_step (E:=f54_E k (G54v1 k) (G79 k) (G79v1 k) (G80 k)) rfl laidOut noNums (orc_ok (S54v1 k).o f54v1_D_ok (orc_ok (S79 k).o f79_D_ok (orc_ok (S79v1 k).o f79v1_D_ok (orc_ok (S80 k).o f80_D_ok orc0_ok)))) (f:=54) (fn:=Try.f54) (code:=f54_code) Try.func54 (by kernel_rfl) (drawsOk_of laidOut (orc_ok (S54v1 k).o f54v1_D_ok (orc_ok (S79 k).o f79_D_ok (orc_ok (S79v1 k).o f79v1_D_ok (orc_ok (S80 k).o f80_D_ok orc0_ok)))) mixed (by kernel_rfl)) f54_un f54_un_ok [2000000,2000001] (fun _=>rfl)
   (fun x ret=>f54_eq k (G54v1 k) (G79 k) (G79v1 k) (G80 k) ret x.1 x.2.1 x.2.2)

noncomputable def f55_I:(List PV)→List SV × Obs:=fun x=>([.ptr 2000000 []],[(2000000,.box 97 (.agg 97 [.ptr 2000000 [],.own 36 2000001])),(2000001,.row 5 x)])
noncomputable def f55_D:List SV→Obs→Option ((List PV))
 | [.ptr 2000000 []],[(2000000,.box 97 (.agg 97 [.ptr 2000000 [],.own 36 2000001])),(2000001,.row 5 l1)]=>some l1
 | _,_=>none
theorem f55_D_ok (args:List SV)(B:Obs)(x:(List PV))(h:f55_D args B=some x):f55_I x=(args,B):=by
 unfold f55_D at h
 split at h
 ·injection h with h;subst h;rfl
 ·cases h
noncomputable def f55_O:(List Int)→Out:=(fun y=>([.str y],[(2000000,.box 97 (.agg 97 [.ptr 2000000 [],.dead]))]))
noncomputable def f55_un:Out→Option ((List Int))
 | ([.str y0],[(2000000,.box 97 (.agg 97 [.ptr 2000000 [],.dead]))])=>some y0
 | _=>none
noncomputable def G55:Nat→(List PV)→((List Int)→R)→R
 | _,l,ret0=>ret0 (l.map PV.num)
theorem S55:∀ k,SndO Try.prog 55 f55_I f55_O (fun x ret=>G55 k x (fun y0=>ret y0)):=fun k=>Bld.strUsed

noncomputable def f20_I:PV→List SV × Obs:=fun x=>([.val 39 x],[])
noncomputable def f20_D:List SV→Obs→Option (PV)
 | [.val 39 p1],[]=>some p1
 | _,_=>none
theorem f20_D_ok (args:List SV)(B:Obs)(x:PV)(h:f20_D args B=some x):f20_I x=(args,B):=by
 unfold f20_D at h
 split at h
 ·injection h with h;subst h;rfl
 ·cases h
noncomputable def f20_O:(List Int)→Out:=(fun y=>([.str y],[]))
noncomputable def f20_un:Out→Option ((List Int))
 | ([.str y0],[])=>some y0
 | _=>none
theorem f20_un_ok (o:Out)(y:(List Int))(h:f20_un o=some y):o=f20_O y:=by
 unfold f20_un at h
 split at h
 ·injection h with h;subst h;rfl
 ·cases h
noncomputable def f20_msk:Nat→Option (List Nat):=fun key=> none
noncomputable def f20_C (c54:Chb_15)(c55:Chb_16):Oracle:=orc 54 f54_D f54_O (fun x ret=>c54 x.1 x.2.1 x.2.2 (fun y0=>ret y0)) <| orc 55 f55_D f55_O (fun x ret=>c55 x (fun y0=>ret y0)) <| orc0
noncomputable def f20_E (k:Nat)(c54:Chb_15)(c55:Chb_16):Env:={ P:=Try.prog,nilOwn:=fun d=>false,fldOwn:=fun d i=>(d==3&&i==1),ownPar:=ownPars,ownRet:=false,hpD:=fun d=>false,hpF:=hpFs,hpNew:=false,mask:=f20_msk,fuel:=k,C:=f20_C c54 c55 }
noncomputable def f20_code:Code:=Try.f20.body.getD .skip
noncomputable def f20_e (c54:Chb_15)(c55:Chb_16)(ret0:(List Int)→R)(p1:PV):R :=
 c54 p1 PV.nil [] fun l2 =>
 c55 l2 fun s3 =>
 ret0 s3

theorem f20_e_mem (k:Nat)(c54:Chb_15)(c55:Chb_16)(retF:(List Int)→R)(p1:PV):exec (f20_E k c54 c55) f20_code (endK (f20_E k c54 c55) Try.f20 [] f20_un retF) ⟨[.val 39 p1,.undef,.undef,.undef,.undef,.undef,.undef],[]⟩=f20_e c54 c55 (fun y0=>retF y0) p1:=by kernel_rfl

noncomputable def f20_N (k:Nat)(c54:Chb_15)(c55:Chb_16)(ret0:(List Int)→R)(p1:PV):R :=
 f20_e c54 c55 ret0 p1
theorem f20_eq (k:Nat)(c54:Chb_15)(c55:Chb_16)(retF:(List Int)→R)(p1:PV):exec (f20_E k c54 c55) f20_code (endK (f20_E k c54 c55) Try.f20 [] f20_un retF) ⟨[.val 39 p1,.undef,.undef,.undef,.undef,.undef,.undef],[]⟩=f20_N k c54 c55 (fun y0=>retF y0) p1 :=
 (f20_e_mem k c54 c55 retF p1)

noncomputable def G20:Nat→PV→((List Int)→R)→R
 | 0,_,_=>none
 | k+1,p1,ret0=>f20_N k (G54 k) (G55 k) ret0 p1
theorem S20:∀ k,Snd Try.prog 20 f20_I f20_O (fun x ret=>G20 k x (fun y0=>ret y0))
 | 0=>snd_none
 | k+1=>snd_step (E:=f20_E k (G54 k) (G55 k)) rfl laidOut noNums (orc_ok (S54 k).o f54_D_ok (orc_ok (S55 k).o f55_D_ok orc0_ok)) (f:=20) (fn:=Try.f20) (code:=f20_code) Try.func20 (by kernel_rfl) (drawsOk_of laidOut (orc_ok (S54 k).o f54_D_ok (orc_ok (S55 k).o f55_D_ok orc0_ok)) mixed (by kernel_rfl)) f20_un f20_un_ok [] (fun _=>rfl)
   (fun x ret=>f20_eq k (G54 k) (G55 k) ret x)

noncomputable def f33_I:Unit→List SV × Obs:=fun x=>([],[])
noncomputable def f33_D:List SV→Obs→Option (Unit)
 | [],[]=>some ()
 | _,_=>none
theorem f33_D_ok (args:List SV)(B:Obs)(x:Unit)(h:f33_D args B=some x):f33_I x=(args,B):=by
 unfold f33_D at h
 split at h
 ·injection h with h;subst h;rfl
 ·cases h
noncomputable def f33_O:Bool→Out:=(fun y=>([.bool y],[]))
noncomputable def f33_un:Out→Option (Bool)
 | ([.bool y0],[])=>some y0
 | _=>none
theorem f33_un_ok (o:Out)(y:Bool)(h:f33_un o=some y):o=f33_O y:=by
 unfold f33_un at h
 split at h
 ·injection h with h;subst h;rfl
 ·cases h
noncomputable def f33_msk:Nat→Option (List Nat):=fun key=> none
noncomputable def f33_C (c20:Chb_17)(c34:Chb_18)(c35:Chb_18)(c36:Chb_13)(c40:Chb_19):Oracle:=orc 20 f20_D f20_O (fun x ret=>c20 x (fun y0=>ret y0)) <| orc 34 f34_D f34_O (fun x ret=>c34 x.1 x.2 (fun y0=>ret y0)) <| orc 35 f35_D f35_O (fun x ret=>c35 x.1 x.2 (fun y0=>ret y0)) <| orc 36 f36_D f36_O (fun x ret=>c36 x (fun y0=>ret y0)) <| orc 40 f40_D f40_O (fun x ret=>c40 x.1 x.2 (fun y0 y1 y2=>ret (y0,y1,y2))) <| orc0
noncomputable def f33_E (k:Nat)(c20:Chb_17)(c34:Chb_18)(c35:Chb_18)(c36:Chb_13)(c40:Chb_19):Env:={ P:=Try.prog,nilOwn:=fun d=>d==13,fldOwn:=fun d i=>false,ownPar:=ownPars,ownRet:=false,hpD:=fun d=>false,hpF:=hpFs,hpNew:=false,mask:=f33_msk,fuel:=k,C:=f33_C c20 c34 c35 c36 c40 }
noncomputable def f33_code:Code:=Try.f33.body.getD .skip
noncomputable def f33_e (c20:Chb_17)(c34:Chb_18)(c35:Chb_18)(c36:Chb_13)(c40:Chb_19)(ret0:Bool→R):R :=
 c36 (PV.list [(PV.int 97)]) fun p1 =>
 c36 (PV.list [(PV.int 97)]) fun p2 =>
 c36 (PV.list [(PV.int 98)]) fun p3 =>
 c34 p2 p3 fun p4 =>
 c35 p1 p4 fun p5 =>
 c40 p5 (PV.list [(PV.int 97),(PV.int 98)]) fun n6 p7 n8 =>
 bif ((decide (n8=(0:Int)))==true) then
 bif ((decide (n6=(1:Int)))==true) then
 c20 p7 fun s9 =>
 ret0 (decide ((s9:List Int)=[76,54,49]))
 else ret0 false
 else ret0 false

theorem f33_e_mem (k:Nat)(c20:Chb_17)(c34:Chb_18)(c35:Chb_18)(c36:Chb_13)(c40:Chb_19)(retF:Bool→R):exec (f33_E k c20 c34 c35 c36 c40) f33_code (endK (f33_E k c20 c34 c35 c36 c40) Try.f33 [] f33_un retF) ⟨[.undef,.undef,.undef,.undef,.undef,.undef,.undef,.undef,.undef,.undef,.undef,.undef,.undef,.undef,.undef,.undef,.undef,.undef,.undef,.undef,.undef,.undef,.undef,.undef,.undef,.undef,.undef,.undef,.undef,.undef],[]⟩=f33_e c20 c34 c35 c36 c40 (fun y0=>retF y0):=by kernel_rfl

noncomputable def f33_N (k:Nat)(c20:Chb_17)(c34:Chb_18)(c35:Chb_18)(c36:Chb_13)(c40:Chb_19)(ret0:Bool→R):R :=
 f33_e c20 c34 c35 c36 c40 ret0
theorem f33_eq (k:Nat)(c20:Chb_17)(c34:Chb_18)(c35:Chb_18)(c36:Chb_13)(c40:Chb_19)(retF:Bool→R):exec (f33_E k c20 c34 c35 c36 c40) f33_code (endK (f33_E k c20 c34 c35 c36 c40) Try.f33 [] f33_un retF) ⟨[.undef,.undef,.undef,.undef,.undef,.undef,.undef,.undef,.undef,.undef,.undef,.undef,.undef,.undef,.undef,.undef,.undef,.undef,.undef,.undef,.undef,.undef,.undef,.undef,.undef,.undef,.undef,.undef,.undef,.undef],[]⟩=f33_N k c20 c34 c35 c36 c40 (fun y0=>retF y0) :=
 (f33_e_mem k c20 c34 c35 c36 c40 retF)

noncomputable def G33:Nat→(Bool→R)→R
 | 0,_=>none
 | k+1,ret0=>f33_N k (G20 k) (G34 k) (G35 k) (G36 k) (G40 k) ret0 
theorem S33:∀ k,Snd Try.prog 33 f33_I f33_O (fun x ret=>G33 k (fun y0=>ret y0))
 | 0=>snd_none
 | k+1=>snd_step (E:=f33_E k (G20 k) (G34 k) (G35 k) (G36 k) (G40 k)) rfl laidOut noNums (orc_ok (S20 k).o f20_D_ok (orc_ok (S34 k).o f34_D_ok (orc_ok (S35 k).o f35_D_ok (orc_ok (S36 k).o f36_D_ok (orc_ok (S40 k).o f40_D_ok orc0_ok))))) (f:=33) (fn:=Try.f33) (code:=f33_code) Try.func33 (by kernel_rfl) (drawsOk_of laidOut (orc_ok (S20 k).o f20_D_ok (orc_ok (S34 k).o f34_D_ok (orc_ok (S35 k).o f35_D_ok (orc_ok (S36 k).o f36_D_ok (orc_ok (S40 k).o f40_D_ok orc0_ok))))) mixed (by kernel_rfl)) f33_un f33_un_ok [] (fun _=>rfl)
   (fun x ret=>f33_eq k (G20 k) (G34 k) (G35 k) (G36 k) (G40 k) ret)

noncomputable def f37_I:PV→List SV × Obs:=fun x=>([.val 28 x],[])
noncomputable def f37_D:List SV→Obs→Option (PV)
 | [.val 28 p1],[]=>some p1
 | _,_=>none
theorem f37_D_ok (args:List SV)(B:Obs)(x:PV)(h:f37_D args B=some x):f37_I x=(args,B):=by
 unfold f37_D at h
 split at h
 ·injection h with h;subst h;rfl
 ·cases h
noncomputable def f37_O:PV→Out:=(fun y=>([.val 28 y],[]))
noncomputable def f37_un:Out→Option (PV)
 | ([.val 28 y0],[])=>some y0
 | _=>none
theorem f37_un_ok (o:Out)(y:PV)(h:f37_un o=some y):o=f37_O y:=by
 unfold f37_un at h
 split at h
 ·injection h with h;subst h;rfl
 ·cases h
noncomputable def f37_msk:Nat→Option (List Nat):=fun key=> none
noncomputable def f37_C:Oracle:=orc0
noncomputable def f37_E (k:Nat):Env:={ P:=Try.prog,nilOwn:=fun d=>false,fldOwn:=fun d i=>false,ownPar:=ownPars,ownRet:=false,hpD:=fun d=>false,hpF:=hpFs,hpNew:=false,mask:=f37_msk,fuel:=k,C:=f37_C }
noncomputable def f37_code:Code:=Try.f37.body.getD .skip
noncomputable def f37_e (ret0:PV→R)(p1:PV):R :=
 ret0 (PV.agg [(PV.int 5),(PV.agg [(PV.int 0),(PV.int 0),(PV.int 0),(PV.int 0)]),(PV.int 0),(PV.list [p1])])

theorem f37_e_mem (k:Nat)(retF:PV→R)(p1:PV):exec (f37_E k) f37_code (endK (f37_E k) Try.f37 [] f37_un retF) ⟨[.val 28 p1,.undef,.undef,.undef,.undef,.undef],[]⟩=f37_e (fun y0=>retF y0) p1:=by kernel_rfl

noncomputable def f37_N (k:Nat)(ret0:PV→R)(p1:PV):R :=
 f37_e ret0 p1
theorem f37_eq (k:Nat)(retF:PV→R)(p1:PV):exec (f37_E k) f37_code (endK (f37_E k) Try.f37 [] f37_un retF) ⟨[.val 28 p1,.undef,.undef,.undef,.undef,.undef],[]⟩=f37_N k (fun y0=>retF y0) p1 :=
 (f37_e_mem k retF p1)

noncomputable def G37:Nat→PV→(PV→R)→R
 | 0,_,_=>none
 | k+1,p1,ret0=>f37_N k  ret0 p1
theorem S37:∀ k,Snd Try.prog 37 f37_I f37_O (fun x ret=>G37 k x (fun y0=>ret y0))
 | 0=>snd_none
 | k+1=>snd_step (E:=f37_E k ) rfl laidOut noNums orc0_ok (f:=37) (fn:=Try.f37) (code:=f37_code) Try.func37 (by kernel_rfl) (drawsOk_of laidOut orc0_ok mixed (by kernel_rfl)) f37_un f37_un_ok [] (fun _=>rfl)
   (fun x ret=>f37_eq k  ret x)

noncomputable def f38_I:PV × PV→List SV × Obs:=fun x=>([.val 28 x.1,.val 36 x.2],[])
noncomputable def f38_D:List SV→Obs→Option (PV × PV)
 | [.val 28 p1,.val 36 p2],[]=>some (p1,p2)
 | _,_=>none
theorem f38_D_ok (args:List SV)(B:Obs)(x:PV × PV)(h:f38_D args B=some x):f38_I x=(args,B):=by
 unfold f38_D at h
 split at h
 ·injection h with h;subst h;rfl
 ·cases h
noncomputable def f38_O:PV × Int→Out:=(fun y=>([.val 39 y.1,.int .i64 y.2],[]))
noncomputable def f38_un:Out→Option (PV × Int)
 | ([.val 39 y0,.int .i64 y1],[])=>some (y0,y1)
 | _=>none
theorem f38_un_ok (o:Out)(y:PV × Int)(h:f38_un o=some y):o=f38_O y:=by
 unfold f38_un at h
 split at h
 ·injection h with h;subst h;rfl
 ·cases h
noncomputable def f38_msk:Nat→Option (List Nat):=fun key=> none
noncomputable def f38_C (c64:Chb_9):Oracle:=orc 64 f64_D f64_O (fun x ret=>c64 x.1 x.2.1 x.2.2 (fun y0 y1 y2=>ret (y0,y1,y2))) <| orc0
noncomputable def f38_E (k:Nat)(c64:Chb_9):Env:={ P:=Try.prog,nilOwn:=fun d=>false,fldOwn:=fun d i=>false,ownPar:=ownPars,ownRet:=false,hpD:=fun d=>false,hpF:=hpFs,hpNew:=false,mask:=f38_msk,fuel:=k,C:=f38_C c64 }
noncomputable def f38_code:Code:=Try.f38.body.getD .skip
noncomputable def f38_e (c64:Chb_9)(ret0:PV→Int→R)(p1:PV)(p2:PV):R :=
 c64 p1 p2 true fun n3 p4 n5 =>
 ret0 p4 n5

theorem f38_e_mem (k:Nat)(c64:Chb_9)(retF:PV × Int→R)(p1:PV)(p2:PV):exec (f38_E k c64) f38_code (endK (f38_E k c64) Try.f38 [] f38_un retF) ⟨[.val 28 p1,.val 36 p2,.undef,.undef,.undef,.undef,.undef,.undef,.undef,.undef,.undef,.undef,.undef,.undef,.undef,.undef,.undef,.undef],[]⟩=f38_e c64 (fun y0 y1=>retF (y0,y1)) p1 p2:=by kernel_rfl

noncomputable def f38_N (k:Nat)(c64:Chb_9)(ret0:PV→Int→R)(p1:PV)(p2:PV):R :=
 f38_e c64 ret0 p1 p2
theorem f38_eq (k:Nat)(c64:Chb_9)(retF:PV × Int→R)(p1:PV)(p2:PV):exec (f38_E k c64) f38_code (endK (f38_E k c64) Try.f38 [] f38_un retF) ⟨[.val 28 p1,.val 36 p2,.undef,.undef,.undef,.undef,.undef,.undef,.undef,.undef,.undef,.undef,.undef,.undef,.undef,.undef,.undef,.undef],[]⟩=f38_N k c64 (fun y0 y1=>retF (y0,y1)) p1 p2 :=
 (f38_e_mem k c64 retF p1 p2)

noncomputable def G38:Nat→PV→PV→(PV→Int→R)→R
 | 0,_,_,_=>none
 | k+1,p1,p2,ret0=>f38_N k (G64 k) ret0 p1 p2
theorem S38:∀ k,Snd Try.prog 38 f38_I f38_O (fun x ret=>G38 k x.1 x.2 (fun y0 y1=>ret (y0,y1)))
 | 0=>snd_none
 | k+1=>snd_step (E:=f38_E k (G64 k)) rfl laidOut noNums (orc_ok (S64 k).o f64_D_ok orc0_ok) (f:=38) (fn:=Try.f38) (code:=f38_code) Try.func38 (by kernel_rfl) (drawsOk_of laidOut (orc_ok (S64 k).o f64_D_ok orc0_ok) mixed (by kernel_rfl)) f38_un f38_un_ok [] (fun _=>rfl)
   (fun x ret=>f38_eq k (G64 k) ret x.1 x.2)

noncomputable def f39_I:Unit→List SV × Obs:=fun x=>([],[])
noncomputable def f39_D:List SV→Obs→Option (Unit)
 | [],[]=>some ()
 | _,_=>none
theorem f39_D_ok (args:List SV)(B:Obs)(x:Unit)(h:f39_D args B=some x):f39_I x=(args,B):=by
 unfold f39_D at h
 split at h
 ·injection h with h;subst h;rfl
 ·cases h
noncomputable def f39_O:PV→Out:=(fun y=>([.val 28 y],[]))
noncomputable def f39_un:Out→Option (PV)
 | ([.val 28 y0],[])=>some y0
 | _=>none
theorem f39_un_ok (o:Out)(y:PV)(h:f39_un o=some y):o=f39_O y:=by
 unfold f39_un at h
 split at h
 ·injection h with h;subst h;rfl
 ·cases h
noncomputable def f39_msk:Nat→Option (List Nat):=fun key=> none
noncomputable def f39_C:Oracle:=orc0
noncomputable def f39_E (k:Nat):Env:={ P:=Try.prog,nilOwn:=fun d=>false,fldOwn:=fun d i=>false,ownPar:=ownPars,ownRet:=false,hpD:=fun d=>false,hpF:=hpFs,hpNew:=false,mask:=f39_msk,fuel:=k,C:=f39_C }
noncomputable def f39_code:Code:=Try.f39.body.getD .skip
noncomputable def f39_e (ret0:PV→R):R :=
 ret0 (PV.agg [(PV.int 1),(PV.agg [(PV.int 0),(PV.int 0),(PV.int 0),(PV.int 0)]),(PV.int 0),(PV.list [])])

theorem f39_e_mem (k:Nat)(retF:PV→R):exec (f39_E k) f39_code (endK (f39_E k) Try.f39 [] f39_un retF) ⟨[.undef,.undef],[]⟩=f39_e (fun y0=>retF y0):=by kernel_rfl

noncomputable def f39_N (k:Nat)(ret0:PV→R):R :=
 f39_e ret0
theorem f39_eq (k:Nat)(retF:PV→R):exec (f39_E k) f39_code (endK (f39_E k) Try.f39 [] f39_un retF) ⟨[.undef,.undef],[]⟩=f39_N k (fun y0=>retF y0) :=
 (f39_e_mem k retF)

noncomputable def G39:Nat→(PV→R)→R
 | 0,_=>none
 | k+1,ret0=>f39_N k  ret0 
theorem S39:∀ k,Snd Try.prog 39 f39_I f39_O (fun x ret=>G39 k (fun y0=>ret y0))
 | 0=>snd_none
 | k+1=>snd_step (E:=f39_E k ) rfl laidOut noNums orc0_ok (f:=39) (fn:=Try.f39) (code:=f39_code) Try.func39 (by kernel_rfl) (drawsOk_of laidOut orc0_ok mixed (by kernel_rfl)) f39_un f39_un_ok [] (fun _=>rfl)
   (fun x ret=>f39_eq k  ret)

noncomputable def f7_I:Unit→List SV × Obs:=fun x=>([],[])
noncomputable def f7_D:List SV→Obs→Option (Unit)
 | [],[]=>some ()
 | _,_=>none
noncomputable def f7_O:Bool→Out:=(fun y=>([.bool y],[]))
noncomputable def f7_un:Out→Option (Bool)
 | ([.bool y0],[])=>some y0
 | _=>none
theorem f7_un_ok (o:Out)(y:Bool)(h:f7_un o=some y):o=f7_O y:=by
 unfold f7_un at h
 split at h
 ·injection h with h;subst h;rfl
 ·cases h
noncomputable def f7_msk:Nat→Option (List Nat):=fun key=> none
noncomputable def f7_C (c20:Chb_17)(c33:Chb_20)(c34:Chb_18)(c35:Chb_18)(c36:Chb_13)(c37:Chb_13)(c38:Chb_21)(c39:Chb_22)(c40:Chb_19):Oracle:=orc 20 f20_D f20_O (fun x ret=>c20 x (fun y0=>ret y0)) <| orc 33 f33_D f33_O (fun x ret=>c33 (fun y0=>ret y0)) <| orc 34 f34_D f34_O (fun x ret=>c34 x.1 x.2 (fun y0=>ret y0)) <| orc 35 f35_D f35_O (fun x ret=>c35 x.1 x.2 (fun y0=>ret y0)) <| orc 36 f36_D f36_O (fun x ret=>c36 x (fun y0=>ret y0)) <| orc 37 f37_D f37_O (fun x ret=>c37 x (fun y0=>ret y0)) <| orc 38 f38_D f38_O (fun x ret=>c38 x.1 x.2 (fun y0 y1=>ret (y0,y1))) <| orc 39 f39_D f39_O (fun x ret=>c39 (fun y0=>ret y0)) <| orc 40 f40_D f40_O (fun x ret=>c40 x.1 x.2 (fun y0 y1 y2=>ret (y0,y1,y2))) <| orc0
noncomputable def f7_E (k:Nat)(c20:Chb_17)(c33:Chb_20)(c34:Chb_18)(c35:Chb_18)(c36:Chb_13)(c37:Chb_13)(c38:Chb_21)(c39:Chb_22)(c40:Chb_19):Env:={ P:=Try.prog,nilOwn:=fun d=>d==37 || d==48 || d==55 || d==75 || d==86 || d==95,fldOwn:=fun d i=>false,ownPar:=ownPars,ownRet:=false,hpD:=fun d=>false,hpF:=hpFs,hpNew:=false,mask:=f7_msk,fuel:=k,C:=f7_C c20 c33 c34 c35 c36 c37 c38 c39 c40 }
noncomputable def f7_code:Code:=Try.f7.body.getD .skip
noncomputable def G7 (k:Nat)(ret0:Bool→R):R:=exec (f7_E k (G20 k) (G33 k) (G34 k) (G35 k) (G36 k) (G37 k) (G38 k) (G39 k) (G40 k)) f7_code (endK (f7_E k (G20 k) (G33 k) (G34 k) (G35 k) (G36 k) (G37 k) (G38 k) (G39 k) (G40 k)) Try.f7 [] f7_un ret0) { T:=(f7_I ()).1++List.replicate (Try.f7.ntmps - (f7_I ()).1.length) .undef,B:=startH (f7_E k (G20 k) (G33 k) (G34 k) (G35 k) (G36 k) (G37 k) (G38 k) (G39 k) (G40 k)) (f7_I ()).2 }
theorem S7:∀ k,Snd Try.prog 7 f7_I f7_O (fun x ret=>G7 k (fun y0=>ret y0)):=fun k =>
 snd_step (E:=f7_E k (G20 k) (G33 k) (G34 k) (G35 k) (G36 k) (G37 k) (G38 k) (G39 k) (G40 k)) rfl laidOut noNums (orc_ok (S20 k).o f20_D_ok (orc_ok (S33 k).o f33_D_ok (orc_ok (S34 k).o f34_D_ok (orc_ok (S35 k).o f35_D_ok (orc_ok (S36 k).o f36_D_ok (orc_ok (S37 k).o f37_D_ok (orc_ok (S38 k).o f38_D_ok (orc_ok (S39 k).o f39_D_ok (orc_ok (S40 k).o f40_D_ok orc0_ok))))))))) (f:=7) (fn:=Try.f7) (code:=f7_code) Try.func7 (by kernel_rfl) (drawsOk_of laidOut (orc_ok (S20 k).o f20_D_ok (orc_ok (S33 k).o f33_D_ok (orc_ok (S34 k).o f34_D_ok (orc_ok (S35 k).o f35_D_ok (orc_ok (S36 k).o f36_D_ok (orc_ok (S37 k).o f37_D_ok (orc_ok (S38 k).o f38_D_ok (orc_ok (S39 k).o f39_D_ok (orc_ok (S40 k).o f40_D_ok orc0_ok))))))))) mixed (by kernel_rfl)) f7_un f7_un_ok [] (fun _=>rfl) (fun x ret=>rfl)

end Go.Proofs.Ytmdlhnojpcnnbaa
