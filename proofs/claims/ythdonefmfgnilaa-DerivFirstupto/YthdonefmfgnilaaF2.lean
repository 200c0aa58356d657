/- Functions of the program as Lean functions, each tied to the program by the kernel: catchpolelaw16.DerivTidy, catchpolelaw16.DerivFirst -/
import Derived.Test.YthdonefmfgnilaaXC
import Derived.Test.YthdonefmfgnilaaProg
import Derived.KernelRfl
set_option linter.unusedVariables false
set_option maxRecDepth 100000
namespace Go.Proofs.Ythdonefmfgnilaa
open Go Go.X
theorem laidOut : laidOutB Try.prog = true := by kernel_rfl
theorem noNums : noNum Try.prog = true := by kernel_rfl
theorem mixed : Try.prog.follows .mixedOrders = true := by kernel_rfl
noncomputable def ownPars : FuncId → Nat → Bool := fun f i => (f == 81 && i == 0)

/- catchpole/byteset.Of -/
noncomputable def f33_I : PV → List SV × Obs := fun x => ([.val 28 x], [])
noncomputable def f33_D : List SV → Obs → Option (PV)
  | [.val 28 p1], [] => some p1
  | _, _ => none
theorem f33_D_ok (args : List SV) (B : Obs) (x : PV) (h : f33_D args B = some x) : f33_I x = (args, B) := by
  unfold f33_D at h
  split at h
  · injection h with h; subst h; rfl
  · cases h
noncomputable def f33_O : PV → Out := (fun y => ([.val 24 y], []))
noncomputable def f33_un : Out → Option (PV)
  | ([.val 24 y0], []) => some y0
  | _ => none
theorem f33_un_ok (o : Out) (y : PV) (h : f33_un o = some y) : o = f33_O y := by
  unfold f33_un at h
  split at h
  · injection h with h; subst h; rfl
  · cases h
noncomputable def f33_msk : Nat → Option (List Nat) := fun key => bif key == 9 then some [2, 3, 6, 7, 8] else none
noncomputable def f33_C : Oracle := orc0
noncomputable def f33_E (k : Nat) : Env := { P := Try.prog, nilOwn := fun d => false, fldOwn := fun d i => false, ownPar := ownPars, ownRet := false, mask := f33_msk, fuel := k, C := f33_C }
noncomputable def f33_code : Code := Try.f33.body.getD .skip
noncomputable def f33_cw1 : Code := subC f33_code [1, 1, 0, 1, 0, 0]
noncomputable def f33_hw1_0 (p1 : PV) (n5 : Int) (p6 : PV) : St := ⟨[.dead, .dead, .ptr 2 [], .ptr 3 [], .dead, .dead, .val 28 p1, .int .i64 (List.length (PV.els p1) : Int), .int .i64 n5, .dead, .dead, .dead, .dead, .dead, .dead, .dead, .dead, .dead, .dead, .dead, .dead, .dead, .dead], [(2, .box 24 (.val 24 (PV.agg [(PV.int 0), (PV.int 0), (PV.int 0), (PV.int 0)]))), (3, .box 24 (.val 24 p6))]⟩
noncomputable def f33_w1A (k : Nat) (retF : PV → R) (p1 : PV) (n5 : Int) (p6 : PV) : R := loopM (f33_E k) f33_cw1 (kont (f33_E k) f33_code [1, 1, 0, 1, 0] (endK (f33_E k) Try.f33 [] f33_un retF)) k (f33_hw1_0 p1 n5 p6)
noncomputable def f33_w1b0 (ret0 : PV → R) (next_w1_0 : Int → PV → R) (p1 : PV) (n5 : Int) (p6 : PV) : R :=
  bif (decide (n5 < (List.length (PV.els p1) : Int))) then
    bif (true && decide ((0 : Int) ≤ n5) && decide (n5 < (List.length (PV.els p1) : Int))) then
      bif (true && decide ((0 : Int) ≤ (IntKind.wrap .u8 (Int.tdiv (PV.num (List.getD (PV.els p1) (n5).toNat PV.nil)) 64))) && decide ((IntKind.wrap .u8 (Int.tdiv (PV.num (List.getD (PV.els p1) (n5).toNat PV.nil)) 64)) < 4)) then
        let n7 : Int := (PV.num (PV.fld p6 ((IntKind.wrap .u8 (Int.tdiv (PV.num (List.getD (PV.els p1) (n5).toNat PV.nil)) 64))).toNat))
        bif (decide ((0 : Int) ≤ (Int.tmod (PV.num (List.getD (PV.els p1) (n5).toNat PV.nil)) 64))) then
          let n8 : Int := (IntKind.wrap .u64 ((1 : Int) * 2 ^ (min ((Int.tmod (PV.num (List.getD (PV.els p1) (n5).toNat PV.nil)) 64)).toNat 64)))
          bif (true && decide ((0 : Int) ≤ (IntKind.wrap .u8 (Int.tdiv (PV.num (List.getD (PV.els p1) (n5).toNat PV.nil)) 64))) && decide ((IntKind.wrap .u8 (Int.tdiv (PV.num (List.getD (PV.els p1) (n5).toNat PV.nil)) 64)) < 4)) then
            let p9 : PV := (PV.agg (List.set (PV.flds p6) ((IntKind.wrap .u8 (Int.tdiv (PV.num (List.getD (PV.els p1) (n5).toNat PV.nil)) 64))).toNat (PV.int (intBit .or .u64 n7 n8))))
            next_w1_0 (IntKind.wrap .i64 (n5 + (1 : Int))) p9
          else none
        else none
      else none
    else none
  else ret0 p6

theorem f33_w1b0_mem (k : Nat) (retF : PV → R) (NX_w1 : St → R) (p1 : PV) (n5 : Int) (p6 : PV) : exec (f33_E k) f33_cw1 (purgeK (f33_E k) f33_cw1 (loopK NX_w1 (kont (f33_E k) f33_code [1, 1, 0, 1, 0] (endK (f33_E k) Try.f33 [] f33_un retF)))) (f33_hw1_0 p1 n5 p6) = f33_w1b0 (fun y0 => retF y0) (fun n5 p6 => NX_w1 (f33_hw1_0 p1 n5 p6)) p1 n5 p6 := by kernel_rfl

noncomputable def f33_w1b0N (k : Nat) (ret0 : PV → R) (next_w1_0 : Int → PV → R) (p1 : PV) (n5 : Int) (p6 : PV) : R :=
  f33_w1b0 ret0 next_w1_0 p1 n5 p6
theorem f33_w1b0_eq (k : Nat) (retF : PV → R) (NX_w1 : St → R) (p1 : PV) (n5 : Int) (p6 : PV) : exec (f33_E k) f33_cw1 (purgeK (f33_E k) f33_cw1 (loopK NX_w1 (kont (f33_E k) f33_code [1, 1, 0, 1, 0] (endK (f33_E k) Try.f33 [] f33_un retF)))) (f33_hw1_0 p1 n5 p6) = f33_w1b0N k (fun y0 => retF y0) (fun n5 p6 => NX_w1 (f33_hw1_0 p1 n5 p6)) p1 n5 p6 :=
  (f33_w1b0_mem k retF NX_w1 p1 n5 p6)

noncomputable def f33_w1B (k : Nat) (ret0 : PV → R) (p1 : PV) (nx : Int × PV → R) : Int × PV → R := (fun s => f33_w1b0N k ret0 (fun n5 p6 => nx (n5, p6)) p1 s.1 s.2)
noncomputable def f33_w1N (k : Nat) (ret0 : PV → R) (p1 : PV) (n5 : Int) (p6 : PV) : R := loopR (f33_w1B k ret0 p1) k (n5, p6)
theorem f33_w1_eq (k : Nat) (retF : PV → R) (p1 : PV) (n5 : Int) (p6 : PV) : f33_w1A k retF p1 n5 p6 = f33_w1N k (fun y0 => retF y0) p1 n5 p6 :=
  Eq.mp (by kernel_rfl) (loop_sim (E := (f33_E k)) (c := f33_cw1) (K := (kont (f33_E k) f33_code [1, 1, 0, 1, 0] (endK (f33_E k) Try.f33 [] f33_un retF))) (S := Int × PV) (fun s => f33_hw1_0 p1 s.1 s.2) (f33_w1B k (fun y0 => retF y0) p1) (fun NX s => by
    exact Eq.mp (by kernel_rfl) (f33_w1b0_eq k retF NX p1 s.1 s.2)) k (n5, p6))

noncomputable def f33_e (ret0 : PV → R) (w1 : Int → PV → R) (p1 : PV) : R :=
  w1 0 (PV.agg [(PV.int 0), (PV.int 0), (PV.int 0), (PV.int 0)])

theorem f33_e_mem (k : Nat) (retF : PV → R) (p1 : PV) : exec (f33_E k) f33_code (endK (f33_E k) Try.f33 [] f33_un retF) ⟨[.val 28 p1, .undef, .undef, .undef, .undef, .undef, .undef, .undef, .undef, .undef, .undef, .undef, .undef, .undef, .undef, .undef, .undef, .undef, .undef, .undef, .undef, .undef, .undef], []⟩ = f33_e (fun y0 => retF y0) (fun n5 p6 => f33_w1A k retF p1 n5 p6) p1 := by kernel_rfl

noncomputable def f33_N (k : Nat) (ret0 : PV → R) (p1 : PV) : R :=
  f33_e ret0 (fun n5 p6 => f33_w1N k ret0 p1 n5 p6) p1
theorem f33_eq (k : Nat) (retF : PV → R) (p1 : PV) : exec (f33_E k) f33_code (endK (f33_E k) Try.f33 [] f33_un retF) ⟨[.val 28 p1, .undef, .undef, .undef, .undef, .undef, .undef, .undef, .undef, .undef, .undef, .undef, .undef, .undef, .undef, .undef, .undef, .undef, .undef, .undef, .undef, .undef, .undef], []⟩ = f33_N k (fun y0 => retF y0) p1 :=
  (f33_e_mem k retF p1).trans (by rw [show (fun n5 p6 => f33_w1A k retF p1 n5 p6) = (fun n5 p6 => f33_w1N k (fun y0 => retF y0) p1 n5 p6) from funext fun n5 => funext fun p6 => f33_w1_eq k retF p1 n5 p6]; rfl)

noncomputable def G33 : Nat → PV → (PV → R) → R
  | 0, _, _ => none
  | k + 1, p1, ret0 => f33_N k  ret0 p1
theorem S33 : ∀ k, Snd Try.prog 33 f33_I f33_O (fun x ret => G33 k x (fun y0 => ret y0))
  | 0 => snd_none
  | k + 1 => snd_step (E := f33_E k ) rfl laidOut noNums orc0_ok (f := 33) (fn := Try.f33) (code := f33_code) Try.func33 (by kernel_rfl) (drawsOk_of laidOut orc0_ok mixed (by kernel_rfl)) f33_un f33_un_ok [] (fun _ => rfl)
      (fun x ret => f33_eq k  ret x)

/- catchpole/catchpolelaw16.ch -/
noncomputable def f20_I : PV → List SV × Obs := fun x => ([.val 28 x], [])
noncomputable def f20_D : List SV → Obs → Option (PV)
  | [.val 28 p1], [] => some p1
  | _, _ => none
theorem f20_D_ok (args : List SV) (B : Obs) (x : PV) (h : f20_D args B = some x) : f20_I x = (args, B) := by
  unfold f20_D at h
  split at h
  · injection h with h; subst h; rfl
  · cases h
noncomputable def f20_O : PV → Out := (fun y => ([.val 27 y], []))
noncomputable def f20_un : Out → Option (PV)
  | ([.val 27 y0], []) => some y0
  | _ => none
theorem f20_un_ok (o : Out) (y : PV) (h : f20_un o = some y) : o = f20_O y := by
  unfold f20_un at h
  split at h
  · injection h with h; subst h; rfl
  · cases h
noncomputable def f20_msk : Nat → Option (List Nat) := fun key =>  none
noncomputable def f20_C (c33 : PV → (PV → R) → R) : Oracle := orc 33 f33_D f33_O (fun x ret => c33 x (fun y0 => ret y0)) <| orc0
noncomputable def f20_E (k : Nat) (c33 : PV → (PV → R) → R) : Env := { P := Try.prog, nilOwn := fun d => false, fldOwn := fun d i => false, ownPar := ownPars, ownRet := false, mask := f20_msk, fuel := k, C := f20_C c33 }
noncomputable def f20_code : Code := Try.f20.body.getD .skip
noncomputable def f20_e (c33 : PV → (PV → R) → R) (ret0 : PV → R) (p1 : PV) : R :=
  c33 p1 fun p2 =>
  ret0 (PV.agg [(PV.int 2), p2, (PV.int 0), (PV.list [])])

theorem f20_e_mem (k : Nat) (c33 : PV → (PV → R) → R) (retF : PV → R) (p1 : PV) : exec (f20_E k c33) f20_code (endK (f20_E k c33) Try.f20 [] f20_un retF) ⟨[.val 28 p1, .undef, .undef, .undef, .undef, .undef], []⟩ = f20_e c33 (fun y0 => retF y0) p1 := by kernel_rfl

noncomputable def f20_N (k : Nat) (c33 : PV → (PV → R) → R) (ret0 : PV → R) (p1 : PV) : R :=
  f20_e c33 ret0 p1
theorem f20_eq (k : Nat) (c33 : PV → (PV → R) → R) (retF : PV → R) (p1 : PV) : exec (f20_E k c33) f20_code (endK (f20_E k c33) Try.f20 [] f20_un retF) ⟨[.val 28 p1, .undef, .undef, .undef, .undef, .undef], []⟩ = f20_N k c33 (fun y0 => retF y0) p1 :=
  (f20_e_mem k c33 retF p1)

noncomputable def G20 : Nat → PV → (PV → R) → R
  | 0, _, _ => none
  | k + 1, p1, ret0 => f20_N k (G33 k) ret0 p1
theorem S20 : ∀ k, Snd Try.prog 20 f20_I f20_O (fun x ret => G20 k x (fun y0 => ret y0))
  | 0 => snd_none
  | k + 1 => snd_step (E := f20_E k (G33 k)) rfl laidOut noNums (orc_ok (S33 k).o f33_D_ok orc0_ok) (f := 20) (fn := Try.f20) (code := f20_code) Try.func20 (by kernel_rfl) (drawsOk_of laidOut (orc_ok (S33 k).o f33_D_ok orc0_ok) mixed (by kernel_rfl)) f20_un f20_un_ok [] (fun _ => rfl)
      (fun x ret => f20_eq k (G33 k) ret x)

/- catchpole/catchpolelaw16.seq -/
noncomputable def f19_I : PV × PV → List SV × Obs := fun x => ([.val 27 x.1, .val 27 x.2], [])
noncomputable def f19_D : List SV → Obs → Option (PV × PV)
  | [.val 27 p1, .val 27 p2], [] => some (p1, p2)
  | _, _ => none
theorem f19_D_ok (args : List SV) (B : Obs) (x : PV × PV) (h : f19_D args B = some x) : f19_I x = (args, B) := by
  unfold f19_D at h
  split at h
  · injection h with h; subst h; rfl
  · cases h
noncomputable def f19_O : PV → Out := (fun y => ([.val 27 y], []))
noncomputable def f19_un : Out → Option (PV)
  | ([.val 27 y0], []) => some y0
  | _ => none
theorem f19_un_ok (o : Out) (y : PV) (h : f19_un o = some y) : o = f19_O y := by
  unfold f19_un at h
  split at h
  · injection h with h; subst h; rfl
  · cases h
noncomputable def f19_msk : Nat → Option (List Nat) := fun key =>  none
noncomputable def f19_C : Oracle := orc0
noncomputable def f19_E (k : Nat) : Env := { P := Try.prog, nilOwn := fun d => false, fldOwn := fun d i => false, ownPar := ownPars, ownRet := false, mask := f19_msk, fuel := k, C := f19_C }
noncomputable def f19_code : Code := Try.f19.body.getD .skip
noncomputable def f19_e (ret0 : PV → R) (p1 : PV) (p2 : PV) : R :=
  ret0 (PV.agg [(PV.int 3), (PV.agg [(PV.int 0), (PV.int 0), (PV.int 0), (PV.int 0)]), (PV.int 0), (PV.list [p1, p2])])

theorem f19_e_mem (k : Nat) (retF : PV → R) (p1 : PV) (p2 : PV) : exec (f19_E k) f19_code (endK (f19_E k) Try.f19 [] f19_un retF) ⟨[.val 27 p1, .val 27 p2, .undef, .undef, .undef, .undef, .undef, .undef, .undef], []⟩ = f19_e (fun y0 => retF y0) p1 p2 := by kernel_rfl

noncomputable def f19_N (k : Nat) (ret0 : PV → R) (p1 : PV) (p2 : PV) : R :=
  f19_e ret0 p1 p2
theorem f19_eq (k : Nat) (retF : PV → R) (p1 : PV) (p2 : PV) : exec (f19_E k) f19_code (endK (f19_E k) Try.f19 [] f19_un retF) ⟨[.val 27 p1, .val 27 p2, .undef, .undef, .undef, .undef, .undef, .undef, .undef], []⟩ = f19_N k (fun y0 => retF y0) p1 p2 :=
  (f19_e_mem k retF p1 p2)

noncomputable def G19 : Nat → PV → PV → (PV → R) → R
  | 0, _, _, _ => none
  | k + 1, p1, p2, ret0 => f19_N k  ret0 p1 p2
theorem S19 : ∀ k, Snd Try.prog 19 f19_I f19_O (fun x ret => G19 k x.1 x.2 (fun y0 => ret y0))
  | 0 => snd_none
  | k + 1 => snd_step (E := f19_E k ) rfl laidOut noNums orc0_ok (f := 19) (fn := Try.f19) (code := f19_code) Try.func19 (by kernel_rfl) (drawsOk_of laidOut orc0_ok mixed (by kernel_rfl)) f19_un f19_un_ok [] (fun _ => rfl)
      (fun x ret => f19_eq k  ret x.1 x.2)

/- catchpole/core.Size -/
noncomputable def f16_I : PV → List SV × Obs := fun x => ([.val 27 x], [])
noncomputable def f16_D : List SV → Obs → Option (PV)
  | [.val 27 p1], [] => some p1
  | _, _ => none
theorem f16_D_ok (args : List SV) (B : Obs) (x : PV) (h : f16_D args B = some x) : f16_I x = (args, B) := by
  unfold f16_D at h
  split at h
  · injection h with h; subst h; rfl
  · cases h
noncomputable def f16_O : Int → Out := (fun y => ([.int .i64 y], []))
noncomputable def f16_un : Out → Option (Int)
  | ([.int .i64 y0], []) => some y0
  | _ => none
theorem f16_un_ok (o : Out) (y : Int) (h : f16_un o = some y) : o = f16_O y := by
  unfold f16_un at h
  split at h
  · injection h with h; subst h; rfl
  · cases h
noncomputable def f16_msk : Nat → Option (List Nat) := fun key => bif key == 9 then some [3, 7, 8, 9] else none
noncomputable def f16_C (c16 : PV → (Int → R) → R) : Oracle := orc 16 f16_D f16_O (fun x ret => c16 x (fun y0 => ret y0)) <| orc0
noncomputable def f16_E (k : Nat) (c16 : PV → (Int → R) → R) : Env := { P := Try.prog, nilOwn := fun d => false, fldOwn := fun d i => false, ownPar := ownPars, ownRet := false, mask := f16_msk, fuel := k, C := f16_C c16 }
noncomputable def f16_code : Code := Try.f16.body.getD .skip
noncomputable def f16_cw1 : Code := subC f16_code [1, 1, 0, 1, 0, 0]
noncomputable def f16_hw1_0 (p1 : PV) (n3 : Int) (n4 : Int) : St := ⟨[.dead, .dead, .dead, .int .i64 n3, .dead, .dead, .dead, .val 25 (PV.fld p1 3), .int .i64 (List.length (PV.els (PV.fld p1 3)) : Int), .int .i64 n4, .dead, .dead, .dead, .dead, .dead, .dead, .dead, .dead, .dead, .dead, .dead, .dead], []⟩
noncomputable def f16_w1A (k : Nat) (c16 : PV → (Int → R) → R) (retF : Int → R) (p1 : PV) (n3 : Int) (n4 : Int) : R := loopM (f16_E k c16) f16_cw1 (kont (f16_E k c16) f16_code [1, 1, 0, 1, 0] (endK (f16_E k c16) Try.f16 [] f16_un retF)) k (f16_hw1_0 p1 n3 n4)
noncomputable def f16_w1b0 (c16 : PV → (Int → R) → R) (ret0 : Int → R) (next_w1_0 : Int → Int → R) (p1 : PV) (n3 : Int) (n4 : Int) : R :=
  bif (decide (n4 < (List.length (PV.els (PV.fld p1 3)) : Int))) then
    bif (true && decide ((0 : Int) ≤ n4) && decide (n4 < (List.length (PV.els (PV.fld p1 3)) : Int))) then
      bif (decide ((100000 : Int) ≤ n3)) then
        ret0 (if (100000 : Int) < n3 then 100000 else n3)
      else c16 (List.getD (PV.els (PV.fld p1 3)) (n4).toNat PV.nil) fun n5 =>
      next_w1_0 (IntKind.wrap .i64 (n3 + n5)) (IntKind.wrap .i64 (n4 + (1 : Int)))
    else none
  else ret0 (if (100000 : Int) < n3 then 100000 else n3)

theorem f16_w1b0_mem (k : Nat) (c16 : PV → (Int → R) → R) (retF : Int → R) (NX_w1 : St → R) (p1 : PV) (n3 : Int) (n4 : Int) : exec (f16_E k c16) f16_cw1 (purgeK (f16_E k c16) f16_cw1 (loopK NX_w1 (kont (f16_E k c16) f16_code [1, 1, 0, 1, 0] (endK (f16_E k c16) Try.f16 [] f16_un retF)))) (f16_hw1_0 p1 n3 n4) = f16_w1b0 c16 (fun y0 => retF y0) (fun n3 n4 => NX_w1 (f16_hw1_0 p1 n3 n4)) p1 n3 n4 := by kernel_rfl

noncomputable def f16_w1b0N (k : Nat) (c16 : PV → (Int → R) → R) (ret0 : Int → R) (next_w1_0 : Int → Int → R) (p1 : PV) (n3 : Int) (n4 : Int) : R :=
  f16_w1b0 c16 ret0 next_w1_0 p1 n3 n4
theorem f16_w1b0_eq (k : Nat) (c16 : PV → (Int → R) → R) (retF : Int → R) (NX_w1 : St → R) (p1 : PV) (n3 : Int) (n4 : Int) : exec (f16_E k c16) f16_cw1 (purgeK (f16_E k c16) f16_cw1 (loopK NX_w1 (kont (f16_E k c16) f16_code [1, 1, 0, 1, 0] (endK (f16_E k c16) Try.f16 [] f16_un retF)))) (f16_hw1_0 p1 n3 n4) = f16_w1b0N k c16 (fun y0 => retF y0) (fun n3 n4 => NX_w1 (f16_hw1_0 p1 n3 n4)) p1 n3 n4 :=
  (f16_w1b0_mem k c16 retF NX_w1 p1 n3 n4)

noncomputable def f16_w1B (k : Nat) (c16 : PV → (Int → R) → R) (ret0 : Int → R) (p1 : PV) (nx : Int × Int → R) : Int × Int → R := (fun s => f16_w1b0N k c16 ret0 (fun n3 n4 => nx (n3, n4)) p1 s.1 s.2)
noncomputable def f16_w1N (k : Nat) (c16 : PV → (Int → R) → R) (ret0 : Int → R) (p1 : PV) (n3 : Int) (n4 : Int) : R := loopR (f16_w1B k c16 ret0 p1) k (n3, n4)
theorem f16_w1_eq (k : Nat) (c16 : PV → (Int → R) → R) (retF : Int → R) (p1 : PV) (n3 : Int) (n4 : Int) : f16_w1A k c16 retF p1 n3 n4 = f16_w1N k c16 (fun y0 => retF y0) p1 n3 n4 :=
  Eq.mp (by kernel_rfl) (loop_sim (E := (f16_E k c16)) (c := f16_cw1) (K := (kont (f16_E k c16) f16_code [1, 1, 0, 1, 0] (endK (f16_E k c16) Try.f16 [] f16_un retF))) (S := Int × Int) (fun s => f16_hw1_0 p1 s.1 s.2) (f16_w1B k c16 (fun y0 => retF y0) p1) (fun NX s => by
    exact Eq.mp (by kernel_rfl) (f16_w1b0_eq k c16 retF NX p1 s.1 s.2)) k (n3, n4))

noncomputable def f16_e (c16 : PV → (Int → R) → R) (ret0 : Int → R) (w1 : Int → Int → R) (p1 : PV) : R :=
  w1 1 0

theorem f16_e_mem (k : Nat) (c16 : PV → (Int → R) → R) (retF : Int → R) (p1 : PV) : exec (f16_E k c16) f16_code (endK (f16_E k c16) Try.f16 [] f16_un retF) ⟨[.val 27 p1, .undef, .undef, .undef, .undef, .undef, .undef, .undef, .undef, .undef, .undef, .undef, .undef, .undef, .undef, .undef, .undef, .undef, .undef, .undef, .undef, .undef], []⟩ = f16_e c16 (fun y0 => retF y0) (fun n3 n4 => f16_w1A k c16 retF p1 n3 n4) p1 := by kernel_rfl

noncomputable def f16_N (k : Nat) (c16 : PV → (Int → R) → R) (ret0 : Int → R) (p1 : PV) : R :=
  f16_e c16 ret0 (fun n3 n4 => f16_w1N k c16 ret0 p1 n3 n4) p1
theorem f16_eq (k : Nat) (c16 : PV → (Int → R) → R) (retF : Int → R) (p1 : PV) : exec (f16_E k c16) f16_code (endK (f16_E k c16) Try.f16 [] f16_un retF) ⟨[.val 27 p1, .undef, .undef, .undef, .undef, .undef, .undef, .undef, .undef, .undef, .undef, .undef, .undef, .undef, .undef, .undef, .undef, .undef, .undef, .undef, .undef, .undef], []⟩ = f16_N k c16 (fun y0 => retF y0) p1 :=
  (f16_e_mem k c16 retF p1).trans (by rw [show (fun n3 n4 => f16_w1A k c16 retF p1 n3 n4) = (fun n3 n4 => f16_w1N k c16 (fun y0 => retF y0) p1 n3 n4) from funext fun n3 => funext fun n4 => f16_w1_eq k c16 retF p1 n3 n4]; rfl)

noncomputable def G16 : Nat → PV → (Int → R) → R
  | 0, _, _ => none
  | k + 1, p1, ret0 => f16_N k (G16 k) ret0 p1
theorem S16 : ∀ k, Snd Try.prog 16 f16_I f16_O (fun x ret => G16 k x (fun y0 => ret y0))
  | 0 => snd_none
  | k + 1 => snd_step (E := f16_E k (G16 k)) rfl laidOut noNums (orc_ok (S16 k).o f16_D_ok orc0_ok) (f := 16) (fn := Try.f16) (code := f16_code) Try.func16 (by kernel_rfl) (drawsOk_of laidOut (orc_ok (S16 k).o f16_D_ok orc0_ok) mixed (by kernel_rfl)) f16_un f16_un_ok [] (fun _ => rfl)
      (fun x ret => f16_eq k (G16 k) ret x)

/- catchpole/core.kids -/
noncomputable def f89_I : Int → List SV × Obs := fun x => ([.int .i64 x], [])
noncomputable def f89_D : List SV → Obs → Option (Int)
  | [.int .i64 n1], [] => some n1
  | _, _ => none
theorem f89_D_ok (args : List SV) (B : Obs) (x : Int) (h : f89_D args B = some x) : f89_I x = (args, B) := by
  unfold f89_D at h
  split at h
  · injection h with h; subst h; rfl
  · cases h
noncomputable def f89_O : Int → Out := (fun y => ([.int .i64 y], []))
noncomputable def f89_un : Out → Option (Int)
  | ([.int .i64 y0], []) => some y0
  | _ => none
theorem f89_un_ok (o : Out) (y : Int) (h : f89_un o = some y) : o = f89_O y := by
  unfold f89_un at h
  split at h
  · injection h with h; subst h; rfl
  · cases h
noncomputable def f89_msk : Nat → Option (List Nat) := fun key =>  none
noncomputable def f89_C : Oracle := orc0
noncomputable def f89_E (k : Nat) : Env := { P := Try.prog, nilOwn := fun d => false, fldOwn := fun d i => false, ownPar := ownPars, ownRet := false, mask := f89_msk, fuel := k, C := f89_C }
noncomputable def f89_code : Code := Try.f89.body.getD .skip
noncomputable def f89_e (ret0 : Int → R) (n1 : Int) : R :=
  bif (decide (n1 = (0 : Int))) then
    ret0 0
  else bif (decide (n1 = (1 : Int))) then
    ret0 0
  else bif (decide (n1 = (2 : Int))) then
    ret0 0
  else bif (decide (n1 = (3 : Int))) then
    ret0 2
  else bif (decide (n1 = (4 : Int))) then
    ret0 2
  else bif (decide (n1 = (5 : Int))) then
    ret0 1
  else bif (decide (n1 = (6 : Int))) then
    ret0 1
  else bif (decide (n1 = (7 : Int))) then
    ret0 1
  else ret0 (-1)

theorem f89_e_mem (k : Nat) (retF : Int → R) (n1 : Int) : exec (f89_E k) f89_code (endK (f89_E k) Try.f89 [] f89_un retF) ⟨[.int .i64 n1, .undef, .undef, .undef, .undef, .undef, .undef, .undef, .undef, .undef, .undef, .undef, .undef, .undef, .undef], []⟩ = f89_e (fun y0 => retF y0) n1 := by kernel_rfl

noncomputable def f89_N (k : Nat) (ret0 : Int → R) (n1 : Int) : R :=
  f89_e ret0 n1
theorem f89_eq (k : Nat) (retF : Int → R) (n1 : Int) : exec (f89_E k) f89_code (endK (f89_E k) Try.f89 [] f89_un retF) ⟨[.int .i64 n1, .undef, .undef, .undef, .undef, .undef, .undef, .undef, .undef, .undef, .undef, .undef, .undef, .undef, .undef], []⟩ = f89_N k (fun y0 => retF y0) n1 :=
  (f89_e_mem k retF n1)

noncomputable def G89 : Nat → Int → (Int → R) → R
  | 0, _, _ => none
  | k + 1, n1, ret0 => f89_N k  ret0 n1
theorem S89 : ∀ k, Snd Try.prog 89 f89_I f89_O (fun x ret => G89 k x (fun y0 => ret y0))
  | 0 => snd_none
  | k + 1 => snd_step (E := f89_E k ) rfl laidOut noNums orc0_ok (f := 89) (fn := Try.f89) (code := f89_code) Try.func89 (by kernel_rfl) (drawsOk_of laidOut orc0_ok mixed (by kernel_rfl)) f89_un f89_un_ok [] (fun _ => rfl)
      (fun x ret => f89_eq k  ret x)

/- catchpole/core.good$1 -/
noncomputable def f91_I : PV × Int → List SV × Obs := fun x => ([.val 27 x.1, .ptr 4000000 []], [(4000000, .box 3 (.int .i64 x.2))])
noncomputable def f91_D : List SV → Obs → Option (PV × Int)
  | [.val 27 p1, .ptr 4000000 []], [(4000000, .box 3 (.int .i64 n2))] => some (p1, n2)
  | _, _ => none
theorem f91_D_ok (args : List SV) (B : Obs) (x : PV × Int) (h : f91_D args B = some x) : f91_I x = (args, B) := by
  unfold f91_D at h
  split at h
  · injection h with h; subst h; rfl
  · cases h
noncomputable def f91_O : Bool × Int → Out := (fun y => ([.bool y.1], [(4000000, .box 3 (.int .i64 y.2))]))
noncomputable def f91_un : Out → Option (Bool × Int)
  | ([.bool y0], [(4000000, .box 3 (.int .i64 y1))]) => some (y0, y1)
  | _ => none
theorem f91_un_ok (o : Out) (y : Bool × Int) (h : f91_un o = some y) : o = f91_O y := by
  unfold f91_un at h
  split at h
  · injection h with h; subst h; rfl
  · cases h
/- slices.IndexFunc[[]catchpole/core.Core,catchpole/core.Core] -/
noncomputable def f112_I : PV × Int → List SV × Obs := fun x => ([.val 25 x.1, .fn 91 [.ptr 4001000 []]], [(4001000, .box 3 (.int .i64 x.2))])
noncomputable def f112_D : List SV → Obs → Option (PV × Int)
  | [.val 25 p1, .fn 91 [.ptr 4001000 []]], [(4001000, .box 3 (.int .i64 n2))] => some (p1, n2)
  | _, _ => none
theorem f112_D_ok (args : List SV) (B : Obs) (x : PV × Int) (h : f112_D args B = some x) : f112_I x = (args, B) := by
  unfold f112_D at h
  split at h
  · injection h with h; subst h; rfl
  · cases h
noncomputable def f112_O : Int × Int → Out := (fun y => ([.int .i64 y.1], [(4001000, .box 3 (.int .i64 y.2))]))
noncomputable def f112_un : Out → Option (Int × Int)
  | ([.int .i64 y0], [(4001000, .box 3 (.int .i64 y1))]) => some (y0, y1)
  | _ => none
theorem f112_un_ok (o : Out) (y : Int × Int) (h : f112_un o = some y) : o = f112_O y := by
  unfold f112_un at h
  split at h
  · injection h with h; subst h; rfl
  · cases h
/- slices.ContainsFunc[[]catchpole/core.Core,catchpole/core.Core] -/
noncomputable def f90_I : PV × Int → List SV × Obs := fun x => ([.val 25 x.1, .fn 91 [.ptr 4001000 []]], [(4001000, .box 3 (.int .i64 x.2))])
noncomputable def f90_D : List SV → Obs → Option (PV × Int)
  | [.val 25 p1, .fn 91 [.ptr 4001000 []]], [(4001000, .box 3 (.int .i64 n2))] => some (p1, n2)
  | _, _ => none
theorem f90_D_ok (args : List SV) (B : Obs) (x : PV × Int) (h : f90_D args B = some x) : f90_I x = (args, B) := by
  unfold f90_D at h
  split at h
  · injection h with h; subst h; rfl
  · cases h
noncomputable def f90_O : Bool × Int → Out := (fun y => ([.bool y.1], [(4001000, .box 3 (.int .i64 y.2))]))
noncomputable def f90_un : Out → Option (Bool × Int)
  | ([.bool y0], [(4001000, .box 3 (.int .i64 y1))]) => some (y0, y1)
  | _ => none
theorem f90_un_ok (o : Out) (y : Bool × Int) (h : f90_un o = some y) : o = f90_O y := by
  unfold f90_un at h
  split at h
  · injection h with h; subst h; rfl
  · cases h
/- catchpole/core.good -/
noncomputable def f60_I : PV × Int → List SV × Obs := fun x => ([.val 27 x.1, .int .i64 x.2], [])
noncomputable def f60_D : List SV → Obs → Option (PV × Int)
  | [.val 27 p1, .int .i64 n2], [] => some (p1, n2)
  | _, _ => none
theorem f60_D_ok (args : List SV) (B : Obs) (x : PV × Int) (h : f60_D args B = some x) : f60_I x = (args, B) := by
  unfold f60_D at h
  split at h
  · injection h with h; subst h; rfl
  · cases h
noncomputable def f60_O : Bool → Out := (fun y => ([.bool y], []))
noncomputable def f60_un : Out → Option (Bool)
  | ([.bool y0], []) => some y0
  | _ => none
theorem f60_un_ok (o : Out) (y : Bool) (h : f60_un o = some y) : o = f60_O y := by
  unfold f60_un at h
  split at h
  · injection h with h; subst h; rfl
  · cases h
noncomputable def f91_msk : Nat → Option (List Nat) := fun key =>  none
noncomputable def f91_C (c60 : PV → Int → (Bool → R) → R) : Oracle := orc 60 f60_D f60_O (fun x ret => c60 x.1 x.2 (fun y0 => ret y0)) <| orc0
noncomputable def f91_E (k : Nat) (c60 : PV → Int → (Bool → R) → R) : Env := { P := Try.prog, nilOwn := fun d => false, fldOwn := fun d i => false, ownPar := ownPars, ownRet := false, mask := f91_msk, fuel := k, C := f91_C c60 }
noncomputable def f91_code : Code := Try.f91.body.getD .skip
noncomputable def f91_e (c60 : PV → Int → (Bool → R) → R) (ret0 : Bool → Int → R) (p1 : PV) (n2 : Int) : R :=
  c60 p1 (IntKind.wrap .i64 (n2 - (1 : Int))) fun b3 =>
  ret0 (!b3) n2

theorem f91_e_mem (k : Nat) (c60 : PV → Int → (Bool → R) → R) (retF : Bool × Int → R) (p1 : PV) (n2 : Int) : exec (f91_E k c60) f91_code (endK (f91_E k c60) Try.f91 [4000000] f91_un retF) ⟨[.val 27 p1, .ptr 4000000 [], .undef, .undef, .undef, .undef, .undef, .undef, .undef], [(4000000, .box 3 (.int .i64 n2))]⟩ = f91_e c60 (fun y0 y1 => retF (y0, y1)) p1 n2 := by kernel_rfl

noncomputable def f91_N (k : Nat) (c60 : PV → Int → (Bool → R) → R) (ret0 : Bool → Int → R) (p1 : PV) (n2 : Int) : R :=
  f91_e c60 ret0 p1 n2
theorem f91_eq (k : Nat) (c60 : PV → Int → (Bool → R) → R) (retF : Bool × Int → R) (p1 : PV) (n2 : Int) : exec (f91_E k c60) f91_code (endK (f91_E k c60) Try.f91 [4000000] f91_un retF) ⟨[.val 27 p1, .ptr 4000000 [], .undef, .undef, .undef, .undef, .undef, .undef, .undef], [(4000000, .box 3 (.int .i64 n2))]⟩ = f91_N k c60 (fun y0 y1 => retF (y0, y1)) p1 n2 :=
  (f91_e_mem k c60 retF p1 n2)

noncomputable def f112_msk : Nat → Option (List Nat) := fun key => bif key == 6 then some [0, 1, 7, 8] else none
noncomputable def f112_C (c91 : PV → Int → (Bool → Int → R) → R) : Oracle := orc 91 f91_D f91_O (fun x ret => c91 x.1 x.2 (fun y0 y1 => ret (y0, y1))) <| orc0
noncomputable def f112_E (k : Nat) (c91 : PV → Int → (Bool → Int → R) → R) : Env := { P := Try.prog, nilOwn := fun d => false, fldOwn := fun d i => false, ownPar := ownPars, ownRet := false, mask := f112_msk, fuel := k, C := f112_C c91 }
noncomputable def f112_code : Code := Try.f112.body.getD .skip
noncomputable def f112_cw1 : Code := subC f112_code [1, 0, 1, 0, 0]
noncomputable def f112_hw1_0 (p1 : PV) (n5 : Int) (n6 : Int) : St := ⟨[.val 25 p1, .fn 91 [.ptr 4001000 []], .dead, .dead, .dead, .dead, .dead, .int .i64 (List.length (PV.els p1) : Int), .int .i64 n5, .dead, .dead, .dead, .dead, .dead, .dead, .dead, .dead, .dead, .dead], [(4001000, .box 3 (.int .i64 n6))]⟩
noncomputable def f112_w1A (k : Nat) (c91 : PV → Int → (Bool → Int → R) → R) (retF : Int × Int → R) (p1 : PV) (n5 : Int) (n6 : Int) : R := loopM (f112_E k c91) f112_cw1 (kont (f112_E k c91) f112_code [1, 0, 1, 0] (endK (f112_E k c91) Try.f112 [4001000] f112_un retF)) k (f112_hw1_0 p1 n5 n6)
noncomputable def f112_w1b0 (c91 : PV → Int → (Bool → Int → R) → R) (ret0 : Int → Int → R) (next_w1_0 : Int → Int → R) (p1 : PV) (n5 : Int) (n6 : Int) : R :=
  bif (decide (n5 < (List.length (PV.els p1) : Int))) then
    bif (true && decide ((0 : Int) ≤ n5) && decide (n5 < (List.length (PV.els p1) : Int))) then
      c91 (List.getD (PV.els p1) (n5).toNat PV.nil) n6 fun b7 n8 =>
      bif b7 then
        ret0 n5 n8
      else next_w1_0 (IntKind.wrap .i64 (n5 + (1 : Int))) n8
    else none
  else ret0 (-1) n6

theorem f112_w1b0_mem (k : Nat) (c91 : PV → Int → (Bool → Int → R) → R) (retF : Int × Int → R) (NX_w1 : St → R) (p1 : PV) (n5 : Int) (n6 : Int) : exec (f112_E k c91) f112_cw1 (purgeK (f112_E k c91) f112_cw1 (loopK NX_w1 (kont (f112_E k c91) f112_code [1, 0, 1, 0] (endK (f112_E k c91) Try.f112 [4001000] f112_un retF)))) (f112_hw1_0 p1 n5 n6) = f112_w1b0 c91 (fun y0 y1 => retF (y0, y1)) (fun n5 n6 => NX_w1 (f112_hw1_0 p1 n5 n6)) p1 n5 n6 := by kernel_rfl

noncomputable def f112_w1b0N (k : Nat) (c91 : PV → Int → (Bool → Int → R) → R) (ret0 : Int → Int → R) (next_w1_0 : Int → Int → R) (p1 : PV) (n5 : Int) (n6 : Int) : R :=
  f112_w1b0 c91 ret0 next_w1_0 p1 n5 n6
theorem f112_w1b0_eq (k : Nat) (c91 : PV → Int → (Bool → Int → R) → R) (retF : Int × Int → R) (NX_w1 : St → R) (p1 : PV) (n5 : Int) (n6 : Int) : exec (f112_E k c91) f112_cw1 (purgeK (f112_E k c91) f112_cw1 (loopK NX_w1 (kont (f112_E k c91) f112_code [1, 0, 1, 0] (endK (f112_E k c91) Try.f112 [4001000] f112_un retF)))) (f112_hw1_0 p1 n5 n6) = f112_w1b0N k c91 (fun y0 y1 => retF (y0, y1)) (fun n5 n6 => NX_w1 (f112_hw1_0 p1 n5 n6)) p1 n5 n6 :=
  (f112_w1b0_mem k c91 retF NX_w1 p1 n5 n6)

noncomputable def f112_w1B (k : Nat) (c91 : PV → Int → (Bool → Int → R) → R) (ret0 : Int → Int → R) (p1 : PV) (nx : Int × Int → R) : Int × Int → R := (fun s => f112_w1b0N k c91 ret0 (fun n5 n6 => nx (n5, n6)) p1 s.1 s.2)
noncomputable def f112_w1N (k : Nat) (c91 : PV → Int → (Bool → Int → R) → R) (ret0 : Int → Int → R) (p1 : PV) (n5 : Int) (n6 : Int) : R := loopR (f112_w1B k c91 ret0 p1) k (n5, n6)
theorem f112_w1_eq (k : Nat) (c91 : PV → Int → (Bool → Int → R) → R) (retF : Int × Int → R) (p1 : PV) (n5 : Int) (n6 : Int) : f112_w1A k c91 retF p1 n5 n6 = f112_w1N k c91 (fun y0 y1 => retF (y0, y1)) p1 n5 n6 :=
  Eq.mp (by kernel_rfl) (loop_sim (E := (f112_E k c91)) (c := f112_cw1) (K := (kont (f112_E k c91) f112_code [1, 0, 1, 0] (endK (f112_E k c91) Try.f112 [4001000] f112_un retF))) (S := Int × Int) (fun s => f112_hw1_0 p1 s.1 s.2) (f112_w1B k c91 (fun y0 y1 => retF (y0, y1)) p1) (fun NX s => by
    exact Eq.mp (by kernel_rfl) (f112_w1b0_eq k c91 retF NX p1 s.1 s.2)) k (n5, n6))

noncomputable def f112_e (c91 : PV → Int → (Bool → Int → R) → R) (ret0 : Int → Int → R) (w1 : Int → Int → R) (p1 : PV) (n2 : Int) : R :=
  w1 0 n2

theorem f112_e_mem (k : Nat) (c91 : PV → Int → (Bool → Int → R) → R) (retF : Int × Int → R) (p1 : PV) (n2 : Int) : exec (f112_E k c91) f112_code (endK (f112_E k c91) Try.f112 [4001000] f112_un retF) ⟨[.val 25 p1, .fn 91 [.ptr 4001000 []], .undef, .undef, .undef, .undef, .undef, .undef, .undef, .undef, .undef, .undef, .undef, .undef, .undef, .undef, .undef, .undef, .undef], [(4001000, .box 3 (.int .i64 n2))]⟩ = f112_e c91 (fun y0 y1 => retF (y0, y1)) (fun n5 n6 => f112_w1A k c91 retF p1 n5 n6) p1 n2 := by kernel_rfl

noncomputable def f112_N (k : Nat) (c91 : PV → Int → (Bool → Int → R) → R) (ret0 : Int → Int → R) (p1 : PV) (n2 : Int) : R :=
  f112_e c91 ret0 (fun n5 n6 => f112_w1N k c91 ret0 p1 n5 n6) p1 n2
theorem f112_eq (k : Nat) (c91 : PV → Int → (Bool → Int → R) → R) (retF : Int × Int → R) (p1 : PV) (n2 : Int) : exec (f112_E k c91) f112_code (endK (f112_E k c91) Try.f112 [4001000] f112_un retF) ⟨[.val 25 p1, .fn 91 [.ptr 4001000 []], .undef, .undef, .undef, .undef, .undef, .undef, .undef, .undef, .undef, .undef, .undef, .undef, .undef, .undef, .undef, .undef, .undef], [(4001000, .box 3 (.int .i64 n2))]⟩ = f112_N k c91 (fun y0 y1 => retF (y0, y1)) p1 n2 :=
  (f112_e_mem k c91 retF p1 n2).trans (by rw [show (fun n5 n6 => f112_w1A k c91 retF p1 n5 n6) = (fun n5 n6 => f112_w1N k c91 (fun y0 y1 => retF (y0, y1)) p1 n5 n6) from funext fun n5 => funext fun n6 => f112_w1_eq k c91 retF p1 n5 n6]; rfl)

noncomputable def f90_msk : Nat → Option (List Nat) := fun key =>  none
noncomputable def f90_C (c112 : PV → Int → (Int → Int → R) → R) : Oracle := orc 112 f112_D f112_O (fun x ret => c112 x.1 x.2 (fun y0 y1 => ret (y0, y1))) <| orc0
noncomputable def f90_E (k : Nat) (c112 : PV → Int → (Int → Int → R) → R) : Env := { P := Try.prog, nilOwn := fun d => false, fldOwn := fun d i => false, ownPar := ownPars, ownRet := false, mask := f90_msk, fuel := k, C := f90_C c112 }
noncomputable def f90_code : Code := Try.f90.body.getD .skip
noncomputable def f90_e (c112 : PV → Int → (Int → Int → R) → R) (ret0 : Bool → Int → R) (p1 : PV) (n2 : Int) : R :=
  c112 p1 n2 fun n3 n4 =>
  ret0 (decide ((0 : Int) ≤ n3)) n4

theorem f90_e_mem (k : Nat) (c112 : PV → Int → (Int → Int → R) → R) (retF : Bool × Int → R) (p1 : PV) (n2 : Int) : exec (f90_E k c112) f90_code (endK (f90_E k c112) Try.f90 [4001000] f90_un retF) ⟨[.val 25 p1, .fn 91 [.ptr 4001000 []], .undef, .undef, .undef, .undef, .undef, .undef, .undef], [(4001000, .box 3 (.int .i64 n2))]⟩ = f90_e c112 (fun y0 y1 => retF (y0, y1)) p1 n2 := by kernel_rfl

noncomputable def f90_N (k : Nat) (c112 : PV → Int → (Int → Int → R) → R) (ret0 : Bool → Int → R) (p1 : PV) (n2 : Int) : R :=
  f90_e c112 ret0 p1 n2
theorem f90_eq (k : Nat) (c112 : PV → Int → (Int → Int → R) → R) (retF : Bool × Int → R) (p1 : PV) (n2 : Int) : exec (f90_E k c112) f90_code (endK (f90_E k c112) Try.f90 [4001000] f90_un retF) ⟨[.val 25 p1, .fn 91 [.ptr 4001000 []], .undef, .undef, .undef, .undef, .undef, .undef, .undef], [(4001000, .box 3 (.int .i64 n2))]⟩ = f90_N k c112 (fun y0 y1 => retF (y0, y1)) p1 n2 :=
  (f90_e_mem k c112 retF p1 n2)

noncomputable def f60_msk : Nat → Option (List Nat) := fun key =>  none
noncomputable def f60_C (c89 : Int → (Int → R) → R) (c90 : PV → Int → (Bool → Int → R) → R) : Oracle := orc 89 f89_D f89_O (fun x ret => c89 x (fun y0 => ret y0)) <| orc 90 f90_D f90_O (fun x ret => c90 x.1 x.2 (fun y0 y1 => ret (y0, y1))) <| orc0
noncomputable def f60_E (k : Nat) (c89 : Int → (Int → R) → R) (c90 : PV → Int → (Bool → Int → R) → R) : Env := { P := Try.prog, nilOwn := fun d => false, fldOwn := fun d i => false, ownPar := ownPars, ownRet := false, mask := f60_msk, fuel := k, C := f60_C c89 c90 }
noncomputable def f60_code : Code := Try.f60.body.getD .skip
noncomputable def f60_e (c89 : Int → (Int → R) → R) (c90 : PV → Int → (Bool → Int → R) → R) (ret0 : Bool → R) (p1 : PV) (n2 : Int) : R :=
  bif ((decide (n2 < (1 : Int))) == false) then
    c89 (PV.num (PV.fld p1 0)) fun n3 =>
    bif ((!(decide ((List.length (PV.els (PV.fld p1 3)) : Int) = n3))) == false) then
      bif ((!(decide ((PV.num (PV.fld p1 0)) = (2 : Int)))) == true) then
        bif (!(PV.beq (PV.fld p1 1) (PV.agg [(PV.int 0), (PV.int 0), (PV.int 0), (PV.int 0)]))) then
          ret0 false
        else bif ((decide ((PV.num (PV.fld p1 0)) = (6 : Int))) == true) then
          bif ((decide ((PV.num (PV.fld p1 2)) < (1 : Int))) == false) then
            bif ((decide ((32 : Int) < (PV.num (PV.fld p1 2)))) == false) then
              bif ((!(decide ((PV.num (PV.fld p1 0)) = (6 : Int)))) == true) then
                bif (!(decide ((PV.num (PV.fld p1 2)) = (0 : Int)))) then
                  ret0 false
                else c90 (PV.fld p1 3) n2 fun b4 n5 =>
                ret0 (!b4)
              else c90 (PV.fld p1 3) n2 fun b6 n7 =>
              ret0 (!b6)
            else ret0 false
          else ret0 false
        else bif ((!(decide ((PV.num (PV.fld p1 0)) = (6 : Int)))) == true) then
          bif (!(decide ((PV.num (PV.fld p1 2)) = (0 : Int)))) then
            ret0 false
          else c90 (PV.fld p1 3) n2 fun b8 n9 =>
          ret0 (!b8)
        else c90 (PV.fld p1 3) n2 fun b10 n11 =>
        ret0 (!b10)
      else bif ((decide ((PV.num (PV.fld p1 0)) = (6 : Int))) == true) then
        bif ((decide ((PV.num (PV.fld p1 2)) < (1 : Int))) == false) then
          bif ((decide ((32 : Int) < (PV.num (PV.fld p1 2)))) == false) then
            bif ((!(decide ((PV.num (PV.fld p1 0)) = (6 : Int)))) == true) then
              bif (!(decide ((PV.num (PV.fld p1 2)) = (0 : Int)))) then
                ret0 false
              else c90 (PV.fld p1 3) n2 fun b12 n13 =>
              ret0 (!b12)
            else c90 (PV.fld p1 3) n2 fun b14 n15 =>
            ret0 (!b14)
          else ret0 false
        else ret0 false
      else bif ((!(decide ((PV.num (PV.fld p1 0)) = (6 : Int)))) == true) then
        bif (!(decide ((PV.num (PV.fld p1 2)) = (0 : Int)))) then
          ret0 false
        else c90 (PV.fld p1 3) n2 fun b16 n17 =>
        ret0 (!b16)
      else c90 (PV.fld p1 3) n2 fun b18 n19 =>
      ret0 (!b18)
    else ret0 false
  else ret0 false

theorem f60_e_mem (k : Nat) (c89 : Int → (Int → R) → R) (c90 : PV → Int → (Bool → Int → R) → R) (retF : Bool → R) (p1 : PV) (n2 : Int) : exec (f60_E k c89 c90) f60_code (endK (f60_E k c89 c90) Try.f60 [] f60_un retF) ⟨[.val 27 p1, .int .i64 n2, .undef, .undef, .undef, .undef, .undef, .undef, .undef, .undef, .undef, .undef, .undef, .undef, .undef, .undef, .undef, .undef, .undef, .undef, .undef, .undef, .undef, .undef, .undef, .undef, .undef, .undef, .undef, .undef, .undef, .undef, .undef, .undef, .undef, .undef, .undef, .undef, .undef, .undef, .undef, .undef, .undef, .undef, .undef, .undef, .undef, .undef, .undef, .undef, .undef, .undef, .undef, .undef, .undef], []⟩ = f60_e c89 c90 (fun y0 => retF y0) p1 n2 := by kernel_rfl

noncomputable def f60_N (k : Nat) (c89 : Int → (Int → R) → R) (c90 : PV → Int → (Bool → Int → R) → R) (ret0 : Bool → R) (p1 : PV) (n2 : Int) : R :=
  f60_e c89 c90 ret0 p1 n2
theorem f60_eq (k : Nat) (c89 : Int → (Int → R) → R) (c90 : PV → Int → (Bool → Int → R) → R) (retF : Bool → R) (p1 : PV) (n2 : Int) : exec (f60_E k c89 c90) f60_code (endK (f60_E k c89 c90) Try.f60 [] f60_un retF) ⟨[.val 27 p1, .int .i64 n2, .undef, .undef, .undef, .undef, .undef, .undef, .undef, .undef, .undef, .undef, .undef, .undef, .undef, .undef, .undef, .undef, .undef, .undef, .undef, .undef, .undef, .undef, .undef, .undef, .undef, .undef, .undef, .undef, .undef, .undef, .undef, .undef, .undef, .undef, .undef, .undef, .undef, .undef, .undef, .undef, .undef, .undef, .undef, .undef, .undef, .undef, .undef, .undef, .undef, .undef, .undef, .undef, .undef], []⟩ = f60_N k c89 c90 (fun y0 => retF y0) p1 n2 :=
  (f60_e_mem k c89 c90 retF p1 n2)

mutual
noncomputable def G91 : Nat → PV → Int → (Bool → Int → R) → R
  | 0, _, _, _ => none
  | k + 1, p1, n2, ret0 => f91_N k (G60 k) ret0 p1 n2
noncomputable def G112 : Nat → PV → Int → (Int → Int → R) → R
  | 0, _, _, _ => none
  | k + 1, p1, n2, ret0 => f112_N k (G91 k) ret0 p1 n2
noncomputable def G90 : Nat → PV → Int → (Bool → Int → R) → R
  | 0, _, _, _ => none
  | k + 1, p1, n2, ret0 => f90_N k (G112 k) ret0 p1 n2
noncomputable def G60 : Nat → PV → Int → (Bool → R) → R
  | 0, _, _, _ => none
  | k + 1, p1, n2, ret0 => f60_N k (G89 k) (G90 k) ret0 p1 n2
end
mutual
theorem S91 : ∀ k, Snd Try.prog 91 f91_I f91_O (fun x ret => G91 k x.1 x.2 (fun y0 y1 => ret (y0, y1)))
  | 0 => snd_none
  | k + 1 => snd_step (E := f91_E k (G60 k)) rfl laidOut noNums (orc_ok (S60 k).o f60_D_ok orc0_ok) (f := 91) (fn := Try.f91) (code := f91_code) Try.func91 (by kernel_rfl) (drawsOk_of laidOut (orc_ok (S60 k).o f60_D_ok orc0_ok) mixed (by kernel_rfl)) f91_un f91_un_ok [4000000] (fun _ => rfl)
      (fun x ret => f91_eq k (G60 k) ret x.1 x.2)
theorem S112 : ∀ k, Snd Try.prog 112 f112_I f112_O (fun x ret => G112 k x.1 x.2 (fun y0 y1 => ret (y0, y1)))
  | 0 => snd_none
  | k + 1 => snd_step (E := f112_E k (G91 k)) rfl laidOut noNums (orc_ok (S91 k).o f91_D_ok orc0_ok) (f := 112) (fn := Try.f112) (code := f112_code) Try.func112 (by kernel_rfl) (drawsOk_of laidOut (orc_ok (S91 k).o f91_D_ok orc0_ok) mixed (by kernel_rfl)) f112_un f112_un_ok [4001000] (fun _ => rfl)
      (fun x ret => f112_eq k (G91 k) ret x.1 x.2)
theorem S90 : ∀ k, Snd Try.prog 90 f90_I f90_O (fun x ret => G90 k x.1 x.2 (fun y0 y1 => ret (y0, y1)))
  | 0 => snd_none
  | k + 1 => snd_step (E := f90_E k (G112 k)) rfl laidOut noNums (orc_ok (S112 k).o f112_D_ok orc0_ok) (f := 90) (fn := Try.f90) (code := f90_code) Try.func90 (by kernel_rfl) (drawsOk_of laidOut (orc_ok (S112 k).o f112_D_ok orc0_ok) mixed (by kernel_rfl)) f90_un f90_un_ok [4001000] (fun _ => rfl)
      (fun x ret => f90_eq k (G112 k) ret x.1 x.2)
theorem S60 : ∀ k, Snd Try.prog 60 f60_I f60_O (fun x ret => G60 k x.1 x.2 (fun y0 => ret y0))
  | 0 => snd_none
  | k + 1 => snd_step (E := f60_E k (G89 k) (G90 k)) rfl laidOut noNums (orc_ok (S89 k).o f89_D_ok (orc_ok (S90 k).o f90_D_ok orc0_ok)) (f := 60) (fn := Try.f60) (code := f60_code) Try.func60 (by kernel_rfl) (drawsOk_of laidOut (orc_ok (S89 k).o f89_D_ok (orc_ok (S90 k).o f90_D_ok orc0_ok)) mixed (by kernel_rfl)) f60_un f60_un_ok [] (fun _ => rfl)
      (fun x ret => f60_eq k (G89 k) (G90 k) ret x.1 x.2)
end

/- catchpole/core.Good -/
noncomputable def f28_I : PV → List SV × Obs := fun x => ([.val 27 x], [])
noncomputable def f28_D : List SV → Obs → Option (PV)
  | [.val 27 p1], [] => some p1
  | _, _ => none
theorem f28_D_ok (args : List SV) (B : Obs) (x : PV) (h : f28_D args B = some x) : f28_I x = (args, B) := by
  unfold f28_D at h
  split at h
  · injection h with h; subst h; rfl
  · cases h
noncomputable def f28_O : Bool → Out := (fun y => ([.bool y], []))
noncomputable def f28_un : Out → Option (Bool)
  | ([.bool y0], []) => some y0
  | _ => none
theorem f28_un_ok (o : Out) (y : Bool) (h : f28_un o = some y) : o = f28_O y := by
  unfold f28_un at h
  split at h
  · injection h with h; subst h; rfl
  · cases h
noncomputable def f28_msk : Nat → Option (List Nat) := fun key =>  none
noncomputable def f28_C (c16 : PV → (Int → R) → R) (c60 : PV → Int → (Bool → R) → R) : Oracle := orc 16 f16_D f16_O (fun x ret => c16 x (fun y0 => ret y0)) <| orc 60 f60_D f60_O (fun x ret => c60 x.1 x.2 (fun y0 => ret y0)) <| orc0
noncomputable def f28_E (k : Nat) (c16 : PV → (Int → R) → R) (c60 : PV → Int → (Bool → R) → R) : Env := { P := Try.prog, nilOwn := fun d => false, fldOwn := fun d i => false, ownPar := ownPars, ownRet := false, mask := f28_msk, fuel := k, C := f28_C c16 c60 }
noncomputable def f28_code : Code := Try.f28.body.getD .skip
noncomputable def f28_e (c16 : PV → (Int → R) → R) (c60 : PV → Int → (Bool → R) → R) (ret0 : Bool → R) (p1 : PV) : R :=
  c16 p1 fun n2 =>
  bif ((decide (n2 ≤ (2000 : Int))) == true) then
    c60 p1 8000 fun b3 =>
    ret0 b3
  else ret0 false

theorem f28_e_mem (k : Nat) (c16 : PV → (Int → R) → R) (c60 : PV → Int → (Bool → R) → R) (retF : Bool → R) (p1 : PV) : exec (f28_E k c16 c60) f28_code (endK (f28_E k c16 c60) Try.f28 [] f28_un retF) ⟨[.val 27 p1, .undef, .undef, .undef, .undef, .undef, .undef, .undef, .undef, .undef], []⟩ = f28_e c16 c60 (fun y0 => retF y0) p1 := by kernel_rfl

noncomputable def f28_N (k : Nat) (c16 : PV → (Int → R) → R) (c60 : PV → Int → (Bool → R) → R) (ret0 : Bool → R) (p1 : PV) : R :=
  f28_e c16 c60 ret0 p1
theorem f28_eq (k : Nat) (c16 : PV → (Int → R) → R) (c60 : PV → Int → (Bool → R) → R) (retF : Bool → R) (p1 : PV) : exec (f28_E k c16 c60) f28_code (endK (f28_E k c16 c60) Try.f28 [] f28_un retF) ⟨[.val 27 p1, .undef, .undef, .undef, .undef, .undef, .undef, .undef, .undef, .undef], []⟩ = f28_N k c16 c60 (fun y0 => retF y0) p1 :=
  (f28_e_mem k c16 c60 retF p1)

noncomputable def G28 : Nat → PV → (Bool → R) → R
  | 0, _, _ => none
  | k + 1, p1, ret0 => f28_N k (G16 k) (G60 k) ret0 p1
theorem S28 : ∀ k, Snd Try.prog 28 f28_I f28_O (fun x ret => G28 k x (fun y0 => ret y0))
  | 0 => snd_none
  | k + 1 => snd_step (E := f28_E k (G16 k) (G60 k)) rfl laidOut noNums (orc_ok (S16 k).o f16_D_ok (orc_ok (S60 k).o f60_D_ok orc0_ok)) (f := 28) (fn := Try.f28) (code := f28_code) Try.func28 (by kernel_rfl) (drawsOk_of laidOut (orc_ok (S16 k).o f16_D_ok (orc_ok (S60 k).o f60_D_ok orc0_ok)) mixed (by kernel_rfl)) f28_un f28_un_ok [] (fun _ => rfl)
      (fun x ret => f28_eq k (G16 k) (G60 k) ret x)

/- (catchpole/byteset.Set).Has -/
noncomputable def f31_I : PV × Int → List SV × Obs := fun x => ([.val 24 x.1, .int .u8 x.2], [])
noncomputable def f31_D : List SV → Obs → Option (PV × Int)
  | [.val 24 p1, .int .u8 n2], [] => some (p1, n2)
  | _, _ => none
theorem f31_D_ok (args : List SV) (B : Obs) (x : PV × Int) (h : f31_D args B = some x) : f31_I x = (args, B) := by
  unfold f31_D at h
  split at h
  · injection h with h; subst h; rfl
  · cases h
noncomputable def f31_O : Bool → Out := (fun y => ([.bool y], []))
noncomputable def f31_un : Out → Option (Bool)
  | ([.bool y0], []) => some y0
  | _ => none
theorem f31_un_ok (o : Out) (y : Bool) (h : f31_un o = some y) : o = f31_O y := by
  unfold f31_un at h
  split at h
  · injection h with h; subst h; rfl
  · cases h
noncomputable def f31_msk : Nat → Option (List Nat) := fun key =>  none
noncomputable def f31_C : Oracle := orc0
noncomputable def f31_E (k : Nat) : Env := { P := Try.prog, nilOwn := fun d => false, fldOwn := fun d i => false, ownPar := ownPars, ownRet := false, mask := f31_msk, fuel := k, C := f31_C }
noncomputable def f31_code : Code := Try.f31.body.getD .skip
noncomputable def f31_e (ret0 : Bool → R) (p1 : PV) (n2 : Int) : R :=
  bif (true && decide ((0 : Int) ≤ (IntKind.wrap .u8 (Int.tdiv n2 64))) && decide ((IntKind.wrap .u8 (Int.tdiv n2 64)) < 4)) then
    bif (decide ((0 : Int) ≤ (Int.tmod n2 64))) then
      let n3 : Int := (Int.fdiv (PV.num (PV.fld p1 ((IntKind.wrap .u8 (Int.tdiv n2 64))).toNat)) (2 ^ (min ((Int.tmod n2 64)).toNat 64)))
      ret0 (decide ((intBit .and .u64 n3 1) = (1 : Int)))
    else none
  else none

theorem f31_e_mem (k : Nat) (retF : Bool → R) (p1 : PV) (n2 : Int) : exec (f31_E k) f31_code (endK (f31_E k) Try.f31 [] f31_un retF) ⟨[.val 24 p1, .int .u8 n2, .undef, .undef, .undef, .undef, .undef, .undef, .undef, .undef, .undef, .undef, .undef, .undef], []⟩ = f31_e (fun y0 => retF y0) p1 n2 := by kernel_rfl

noncomputable def f31_N (k : Nat) (ret0 : Bool → R) (p1 : PV) (n2 : Int) : R :=
  f31_e ret0 p1 n2
theorem f31_eq (k : Nat) (retF : Bool → R) (p1 : PV) (n2 : Int) : exec (f31_E k) f31_code (endK (f31_E k) Try.f31 [] f31_un retF) ⟨[.val 24 p1, .int .u8 n2, .undef, .undef, .undef, .undef, .undef, .undef, .undef, .undef, .undef, .undef, .undef, .undef], []⟩ = f31_N k (fun y0 => retF y0) p1 n2 :=
  (f31_e_mem k retF p1 n2)

noncomputable def G31 : Nat → PV → Int → (Bool → R) → R
  | 0, _, _, _ => none
  | k + 1, p1, n2, ret0 => f31_N k  ret0 p1 n2
theorem S31 : ∀ k, Snd Try.prog 31 f31_I f31_O (fun x ret => G31 k x.1 x.2 (fun y0 => ret y0))
  | 0 => snd_none
  | k + 1 => snd_step (E := f31_E k ) rfl laidOut noNums orc0_ok (f := 31) (fn := Try.f31) (code := f31_code) Try.func31 (by kernel_rfl) (drawsOk_of laidOut orc0_ok mixed (by kernel_rfl)) f31_un f31_un_ok [] (fun _ => rfl)
      (fun x ret => f31_eq k  ret x.1 x.2)

/- catchpole/deriv.empty -/
noncomputable def f87_I : Unit → List SV × Obs := fun x => ([], [])
noncomputable def f87_D : List SV → Obs → Option (Unit)
  | [], [] => some ()
  | _, _ => none
theorem f87_D_ok (args : List SV) (B : Obs) (x : Unit) (h : f87_D args B = some x) : f87_I x = (args, B) := by
  unfold f87_D at h
  split at h
  · injection h with h; subst h; rfl
  · cases h
noncomputable def f87_O : PV → Out := (fun y => ([.val 27 y], []))
noncomputable def f87_un : Out → Option (PV)
  | ([.val 27 y0], []) => some y0
  | _ => none
theorem f87_un_ok (o : Out) (y : PV) (h : f87_un o = some y) : o = f87_O y := by
  unfold f87_un at h
  split at h
  · injection h with h; subst h; rfl
  · cases h
noncomputable def f87_msk : Nat → Option (List Nat) := fun key =>  none
noncomputable def f87_C : Oracle := orc0
noncomputable def f87_E (k : Nat) : Env := { P := Try.prog, nilOwn := fun d => false, fldOwn := fun d i => false, ownPar := ownPars, ownRet := false, mask := f87_msk, fuel := k, C := f87_C }
noncomputable def f87_code : Code := Try.f87.body.getD .skip
noncomputable def f87_e (ret0 : PV → R) : R :=
  ret0 (PV.agg [(PV.int 1), (PV.agg [(PV.int 0), (PV.int 0), (PV.int 0), (PV.int 0)]), (PV.int 0), (PV.list [])])

theorem f87_e_mem (k : Nat) (retF : PV → R) : exec (f87_E k) f87_code (endK (f87_E k) Try.f87 [] f87_un retF) ⟨[.undef, .undef], []⟩ = f87_e (fun y0 => retF y0) := by kernel_rfl

noncomputable def f87_N (k : Nat) (ret0 : PV → R) : R :=
  f87_e ret0
theorem f87_eq (k : Nat) (retF : PV → R) : exec (f87_E k) f87_code (endK (f87_E k) Try.f87 [] f87_un retF) ⟨[.undef, .undef], []⟩ = f87_N k (fun y0 => retF y0) :=
  (f87_e_mem k retF)

noncomputable def G87 : Nat → (PV → R) → R
  | 0, _ => none
  | k + 1, ret0 => f87_N k  ret0 
theorem S87 : ∀ k, Snd Try.prog 87 f87_I f87_O (fun x ret => G87 k (fun y0 => ret y0))
  | 0 => snd_none
  | k + 1 => snd_step (E := f87_E k ) rfl laidOut noNums orc0_ok (f := 87) (fn := Try.f87) (code := f87_code) Try.func87 (by kernel_rfl) (drawsOk_of laidOut orc0_ok mixed (by kernel_rfl)) f87_un f87_un_ok [] (fun _ => rfl)
      (fun x ret => f87_eq k  ret)

/- catchpole/deriv.none -/
noncomputable def f86_I : Unit → List SV × Obs := fun x => ([], [])
noncomputable def f86_D : List SV → Obs → Option (Unit)
  | [], [] => some ()
  | _, _ => none
theorem f86_D_ok (args : List SV) (B : Obs) (x : Unit) (h : f86_D args B = some x) : f86_I x = (args, B) := by
  unfold f86_D at h
  split at h
  · injection h with h; subst h; rfl
  · cases h
noncomputable def f86_O : PV → Out := (fun y => ([.val 27 y], []))
noncomputable def f86_un : Out → Option (PV)
  | ([.val 27 y0], []) => some y0
  | _ => none
theorem f86_un_ok (o : Out) (y : PV) (h : f86_un o = some y) : o = f86_O y := by
  unfold f86_un at h
  split at h
  · injection h with h; subst h; rfl
  · cases h
noncomputable def f86_msk : Nat → Option (List Nat) := fun key =>  none
noncomputable def f86_C : Oracle := orc0
noncomputable def f86_E (k : Nat) : Env := { P := Try.prog, nilOwn := fun d => false, fldOwn := fun d i => false, ownPar := ownPars, ownRet := false, mask := f86_msk, fuel := k, C := f86_C }
noncomputable def f86_code : Code := Try.f86.body.getD .skip
noncomputable def f86_e (ret0 : PV → R) : R :=
  ret0 (PV.agg [(PV.int 0), (PV.agg [(PV.int 0), (PV.int 0), (PV.int 0), (PV.int 0)]), (PV.int 0), (PV.list [])])

theorem f86_e_mem (k : Nat) (retF : PV → R) : exec (f86_E k) f86_code (endK (f86_E k) Try.f86 [] f86_un retF) ⟨[.undef, .undef], []⟩ = f86_e (fun y0 => retF y0) := by kernel_rfl

noncomputable def f86_N (k : Nat) (ret0 : PV → R) : R :=
  f86_e ret0
theorem f86_eq (k : Nat) (retF : PV → R) : exec (f86_E k) f86_code (endK (f86_E k) Try.f86 [] f86_un retF) ⟨[.undef, .undef], []⟩ = f86_N k (fun y0 => retF y0) :=
  (f86_e_mem k retF)

noncomputable def G86 : Nat → (PV → R) → R
  | 0, _ => none
  | k + 1, ret0 => f86_N k  ret0 
theorem S86 : ∀ k, Snd Try.prog 86 f86_I f86_O (fun x ret => G86 k (fun y0 => ret y0))
  | 0 => snd_none
  | k + 1 => snd_step (E := f86_E k ) rfl laidOut noNums orc0_ok (f := 86) (fn := Try.f86) (code := f86_code) Try.func86 (by kernel_rfl) (drawsOk_of laidOut orc0_ok mixed (by kernel_rfl)) f86_un f86_un_ok [] (fun _ => rfl)
      (fun x ret => f86_eq k  ret)

/- catchpole/deriv.two -/
noncomputable def f88_I : Int × PV × PV → List SV × Obs := fun x => ([.int .i64 x.1, .val 27 x.2.1, .val 27 x.2.2], [])
noncomputable def f88_D : List SV → Obs → Option (Int × PV × PV)
  | [.int .i64 n1, .val 27 p2, .val 27 p3], [] => some (n1, p2, p3)
  | _, _ => none
theorem f88_D_ok (args : List SV) (B : Obs) (x : Int × PV × PV) (h : f88_D args B = some x) : f88_I x = (args, B) := by
  unfold f88_D at h
  split at h
  · injection h with h; subst h; rfl
  · cases h
noncomputable def f88_O : PV → Out := (fun y => ([.val 27 y], []))
noncomputable def f88_un : Out → Option (PV)
  | ([.val 27 y0], []) => some y0
  | _ => none
theorem f88_un_ok (o : Out) (y : PV) (h : f88_un o = some y) : o = f88_O y := by
  unfold f88_un at h
  split at h
  · injection h with h; subst h; rfl
  · cases h
noncomputable def f88_msk : Nat → Option (List Nat) := fun key =>  none
noncomputable def f88_C : Oracle := orc0
noncomputable def f88_E (k : Nat) : Env := { P := Try.prog, nilOwn := fun d => false, fldOwn := fun d i => false, ownPar := ownPars, ownRet := false, mask := f88_msk, fuel := k, C := f88_C }
noncomputable def f88_code : Code := Try.f88.body.getD .skip
noncomputable def f88_e (ret0 : PV → R) (n1 : Int) (p2 : PV) (p3 : PV) : R :=
  ret0 (PV.agg [(PV.int n1), (PV.agg [(PV.int 0), (PV.int 0), (PV.int 0), (PV.int 0)]), (PV.int 0), (PV.list [p2, p3])])

theorem f88_e_mem (k : Nat) (retF : PV → R) (n1 : Int) (p2 : PV) (p3 : PV) : exec (f88_E k) f88_code (endK (f88_E k) Try.f88 [] f88_un retF) ⟨[.int .i64 n1, .val 27 p2, .val 27 p3, .undef, .undef, .undef, .undef, .undef, .undef, .undef, .undef, .undef], []⟩ = f88_e (fun y0 => retF y0) n1 p2 p3 := by kernel_rfl

noncomputable def f88_N (k : Nat) (ret0 : PV → R) (n1 : Int) (p2 : PV) (p3 : PV) : R :=
  f88_e ret0 n1 p2 p3
theorem f88_eq (k : Nat) (retF : PV → R) (n1 : Int) (p2 : PV) (p3 : PV) : exec (f88_E k) f88_code (endK (f88_E k) Try.f88 [] f88_un retF) ⟨[.int .i64 n1, .val 27 p2, .val 27 p3, .undef, .undef, .undef, .undef, .undef, .undef, .undef, .undef, .undef], []⟩ = f88_N k (fun y0 => retF y0) n1 p2 p3 :=
  (f88_e_mem k retF n1 p2 p3)

noncomputable def G88 : Nat → Int → PV → PV → (PV → R) → R
  | 0, _, _, _, _ => none
  | k + 1, n1, p2, p3, ret0 => f88_N k  ret0 n1 p2 p3
theorem S88 : ∀ k, Snd Try.prog 88 f88_I f88_O (fun x ret => G88 k x.1 x.2.1 x.2.2 (fun y0 => ret y0))
  | 0 => snd_none
  | k + 1 => snd_step (E := f88_E k ) rfl laidOut noNums orc0_ok (f := 88) (fn := Try.f88) (code := f88_code) Try.func88 (by kernel_rfl) (drawsOk_of laidOut orc0_ok mixed (by kernel_rfl)) f88_un f88_un_ok [] (fun _ => rfl)
      (fun x ret => f88_eq k  ret x.1 x.2.1 x.2.2)

/- catchpole/lang.null -/
noncomputable def f65_I : PV → List SV × Obs := fun x => ([.val 27 x], [])
noncomputable def f65_D : List SV → Obs → Option (PV)
  | [.val 27 p1], [] => some p1
  | _, _ => none
theorem f65_D_ok (args : List SV) (B : Obs) (x : PV) (h : f65_D args B = some x) : f65_I x = (args, B) := by
  unfold f65_D at h
  split at h
  · injection h with h; subst h; rfl
  · cases h
noncomputable def f65_O : Bool → Out := (fun y => ([.bool y], []))
noncomputable def f65_un : Out → Option (Bool)
  | ([.bool y0], []) => some y0
  | _ => none
theorem f65_un_ok (o : Out) (y : Bool) (h : f65_un o = some y) : o = f65_O y := by
  unfold f65_un at h
  split at h
  · injection h with h; subst h; rfl
  · cases h
noncomputable def f65_msk : Nat → Option (List Nat) := fun key =>  none
noncomputable def f65_C (c65 : PV → (Bool → R) → R) : Oracle := orc 65 f65_D f65_O (fun x ret => c65 x (fun y0 => ret y0)) <| orc0
noncomputable def f65_E (k : Nat) (c65 : PV → (Bool → R) → R) : Env := { P := Try.prog, nilOwn := fun d => false, fldOwn := fun d i => false, ownPar := ownPars, ownRet := false, mask := f65_msk, fuel := k, C := f65_C c65 }
noncomputable def f65_code : Code := Try.f65.body.getD .skip
noncomputable def f65_e (c65 : PV → (Bool → R) → R) (ret0 : Bool → R) (p1 : PV) : R :=
  bif (decide ((PV.num (PV.fld p1 0)) = (1 : Int))) then
    ret0 true
  else bif (decide ((PV.num (PV.fld p1 0)) = (5 : Int))) then
    ret0 true
  else bif (decide ((PV.num (PV.fld p1 0)) = (3 : Int))) then
    bif (true && decide ((0 : Int) ≤ (0 : Int)) && decide ((0 : Int) < (List.length (PV.els (PV.fld p1 3)) : Int))) then
      c65 (List.getD (PV.els (PV.fld p1 3)) ((0 : Int)).toNat PV.nil) fun b2 =>
      bif (b2 == true) then
        bif (true && decide ((0 : Int) ≤ (1 : Int)) && decide ((1 : Int) < (List.length (PV.els (PV.fld p1 3)) : Int))) then
          c65 (List.getD (PV.els (PV.fld p1 3)) ((1 : Int)).toNat PV.nil) fun b3 =>
          ret0 b3
        else none
      else ret0 false
    else none
  else bif (decide ((PV.num (PV.fld p1 0)) = (4 : Int))) then
    bif (true && decide ((0 : Int) ≤ (0 : Int)) && decide ((0 : Int) < (List.length (PV.els (PV.fld p1 3)) : Int))) then
      c65 (List.getD (PV.els (PV.fld p1 3)) ((0 : Int)).toNat PV.nil) fun b4 =>
      bif (b4 == false) then
        bif (true && decide ((0 : Int) ≤ (1 : Int)) && decide ((1 : Int) < (List.length (PV.els (PV.fld p1 3)) : Int))) then
          c65 (List.getD (PV.els (PV.fld p1 3)) ((1 : Int)).toNat PV.nil) fun b5 =>
          ret0 b5
        else none
      else ret0 true
    else none
  else bif (decide ((PV.num (PV.fld p1 0)) = (6 : Int))) then
    bif (true && decide ((0 : Int) ≤ (0 : Int)) && decide ((0 : Int) < (List.length (PV.els (PV.fld p1 3)) : Int))) then
      c65 (List.getD (PV.els (PV.fld p1 3)) ((0 : Int)).toNat PV.nil) fun b6 =>
      ret0 b6
    else none
  else bif (decide ((PV.num (PV.fld p1 0)) = (7 : Int))) then
    bif (true && decide ((0 : Int) ≤ (0 : Int)) && decide ((0 : Int) < (List.length (PV.els (PV.fld p1 3)) : Int))) then
      c65 (List.getD (PV.els (PV.fld p1 3)) ((0 : Int)).toNat PV.nil) fun b7 =>
      ret0 b7
    else none
  else ret0 false

theorem f65_e_mem (k : Nat) (c65 : PV → (Bool → R) → R) (retF : Bool → R) (p1 : PV) : exec (f65_E k c65) f65_code (endK (f65_E k c65) Try.f65 [] f65_un retF) ⟨[.val 27 p1, .undef, .undef, .undef, .undef, .undef, .undef, .undef, .undef, .undef, .undef, .undef, .undef, .undef, .undef, .undef, .undef, .undef, .undef, .undef, .undef, .undef, .undef, .undef, .undef, .undef, .undef, .undef, .undef, .undef, .undef, .undef, .undef, .undef, .undef, .undef, .undef, .undef, .undef, .undef, .undef, .undef, .undef, .undef], []⟩ = f65_e c65 (fun y0 => retF y0) p1 := by kernel_rfl

noncomputable def f65_N (k : Nat) (c65 : PV → (Bool → R) → R) (ret0 : Bool → R) (p1 : PV) : R :=
  f65_e c65 ret0 p1
theorem f65_eq (k : Nat) (c65 : PV → (Bool → R) → R) (retF : Bool → R) (p1 : PV) : exec (f65_E k c65) f65_code (endK (f65_E k c65) Try.f65 [] f65_un retF) ⟨[.val 27 p1, .undef, .undef, .undef, .undef, .undef, .undef, .undef, .undef, .undef, .undef, .undef, .undef, .undef, .undef, .undef, .undef, .undef, .undef, .undef, .undef, .undef, .undef, .undef, .undef, .undef, .undef, .undef, .undef, .undef, .undef, .undef, .undef, .undef, .undef, .undef, .undef, .undef, .undef, .undef, .undef, .undef, .undef, .undef], []⟩ = f65_N k c65 (fun y0 => retF y0) p1 :=
  (f65_e_mem k c65 retF p1)

noncomputable def G65 : Nat → PV → (Bool → R) → R
  | 0, _, _ => none
  | k + 1, p1, ret0 => f65_N k (G65 k) ret0 p1
theorem S65 : ∀ k, Snd Try.prog 65 f65_I f65_O (fun x ret => G65 k x (fun y0 => ret y0))
  | 0 => snd_none
  | k + 1 => snd_step (E := f65_E k (G65 k)) rfl laidOut noNums (orc_ok (S65 k).o f65_D_ok orc0_ok) (f := 65) (fn := Try.f65) (code := f65_code) Try.func65 (by kernel_rfl) (drawsOk_of laidOut (orc_ok (S65 k).o f65_D_ok orc0_ok) mixed (by kernel_rfl)) f65_un f65_un_ok [] (fun _ => rfl)
      (fun x ret => f65_eq k (G65 k) ret x)

/- catchpole/lang.Null -/
noncomputable def f32_I : PV → List SV × Obs := fun x => ([.val 27 x], [])
noncomputable def f32_D : List SV → Obs → Option (PV)
  | [.val 27 p1], [] => some p1
  | _, _ => none
theorem f32_D_ok (args : List SV) (B : Obs) (x : PV) (h : f32_D args B = some x) : f32_I x = (args, B) := by
  unfold f32_D at h
  split at h
  · injection h with h; subst h; rfl
  · cases h
noncomputable def f32_O : Bool → Out := (fun y => ([.bool y], []))
noncomputable def f32_un : Out → Option (Bool)
  | ([.bool y0], []) => some y0
  | _ => none
theorem f32_un_ok (o : Out) (y : Bool) (h : f32_un o = some y) : o = f32_O y := by
  unfold f32_un at h
  split at h
  · injection h with h; subst h; rfl
  · cases h
noncomputable def f32_msk : Nat → Option (List Nat) := fun key =>  none
noncomputable def f32_C (c28 : PV → (Bool → R) → R) (c65 : PV → (Bool → R) → R) : Oracle := orc 28 f28_D f28_O (fun x ret => c28 x (fun y0 => ret y0)) <| orc 65 f65_D f65_O (fun x ret => c65 x (fun y0 => ret y0)) <| orc0
noncomputable def f32_E (k : Nat) (c28 : PV → (Bool → R) → R) (c65 : PV → (Bool → R) → R) : Env := { P := Try.prog, nilOwn := fun d => false, fldOwn := fun d i => false, ownPar := ownPars, ownRet := false, mask := f32_msk, fuel := k, C := f32_C c28 c65 }
noncomputable def f32_code : Code := Try.f32.body.getD .skip
noncomputable def f32_e (c28 : PV → (Bool → R) → R) (c65 : PV → (Bool → R) → R) (ret0 : Bool → R) (p1 : PV) : R :=
  c28 p1 fun b2 =>
  bif (b2 == true) then
    c65 p1 fun b3 =>
    ret0 b3
  else ret0 false

theorem f32_e_mem (k : Nat) (c28 : PV → (Bool → R) → R) (c65 : PV → (Bool → R) → R) (retF : Bool → R) (p1 : PV) : exec (f32_E k c28 c65) f32_code (endK (f32_E k c28 c65) Try.f32 [] f32_un retF) ⟨[.val 27 p1, .undef, .undef, .undef, .undef, .undef, .undef, .undef, .undef], []⟩ = f32_e c28 c65 (fun y0 => retF y0) p1 := by kernel_rfl

noncomputable def f32_N (k : Nat) (c28 : PV → (Bool → R) → R) (c65 : PV → (Bool → R) → R) (ret0 : Bool → R) (p1 : PV) : R :=
  f32_e c28 c65 ret0 p1
theorem f32_eq (k : Nat) (c28 : PV → (Bool → R) → R) (c65 : PV → (Bool → R) → R) (retF : Bool → R) (p1 : PV) : exec (f32_E k c28 c65) f32_code (endK (f32_E k c28 c65) Try.f32 [] f32_un retF) ⟨[.val 27 p1, .undef, .undef, .undef, .undef, .undef, .undef, .undef, .undef], []⟩ = f32_N k c28 c65 (fun y0 => retF y0) p1 :=
  (f32_e_mem k c28 c65 retF p1)

noncomputable def G32 : Nat → PV → (Bool → R) → R
  | 0, _, _ => none
  | k + 1, p1, ret0 => f32_N k (G28 k) (G65 k) ret0 p1
theorem S32 : ∀ k, Snd Try.prog 32 f32_I f32_O (fun x ret => G32 k x (fun y0 => ret y0))
  | 0 => snd_none
  | k + 1 => snd_step (E := f32_E k (G28 k) (G65 k)) rfl laidOut noNums (orc_ok (S28 k).o f28_D_ok (orc_ok (S65 k).o f65_D_ok orc0_ok)) (f := 32) (fn := Try.f32) (code := f32_code) Try.func32 (by kernel_rfl) (drawsOk_of laidOut (orc_ok (S28 k).o f28_D_ok (orc_ok (S65 k).o f65_D_ok orc0_ok)) mixed (by kernel_rfl)) f32_un f32_un_ok [] (fun _ => rfl)
      (fun x ret => f32_eq k (G28 k) (G65 k) ret x)

/- catchpole/deriv.by -/
noncomputable def f59_I : PV × Int → List SV × Obs := fun x => ([.val 27 x.1, .int .u8 x.2], [])
noncomputable def f59_D : List SV → Obs → Option (PV × Int)
  | [.val 27 p1, .int .u8 n2], [] => some (p1, n2)
  | _, _ => none
theorem f59_D_ok (args : List SV) (B : Obs) (x : PV × Int) (h : f59_D args B = some x) : f59_I x = (args, B) := by
  unfold f59_D at h
  split at h
  · injection h with h; subst h; rfl
  · cases h
noncomputable def f59_O : PV → Out := (fun y => ([.val 27 y], []))
noncomputable def f59_un : Out → Option (PV)
  | ([.val 27 y0], []) => some y0
  | _ => none
theorem f59_un_ok (o : Out) (y : PV) (h : f59_un o = some y) : o = f59_O y := by
  unfold f59_un at h
  split at h
  · injection h with h; subst h; rfl
  · cases h
noncomputable def f59_msk : Nat → Option (List Nat) := fun key =>  none
noncomputable def f59_C (c31 : PV → Int → (Bool → R) → R) (c32 : PV → (Bool → R) → R) (c59 : PV → Int → (PV → R) → R) (c86 : (PV → R) → R) (c87 : (PV → R) → R) (c88 : Int → PV → PV → (PV → R) → R) : Oracle := orc 31 f31_D f31_O (fun x ret => c31 x.1 x.2 (fun y0 => ret y0)) <| orc 32 f32_D f32_O (fun x ret => c32 x (fun y0 => ret y0)) <| orc 59 f59_D f59_O (fun x ret => c59 x.1 x.2 (fun y0 => ret y0)) <| orc 86 f86_D f86_O (fun x ret => c86 (fun y0 => ret y0)) <| orc 87 f87_D f87_O (fun x ret => c87 (fun y0 => ret y0)) <| orc 88 f88_D f88_O (fun x ret => c88 x.1 x.2.1 x.2.2 (fun y0 => ret y0)) <| orc0
noncomputable def f59_E (k : Nat) (c31 : PV → Int → (Bool → R) → R) (c32 : PV → (Bool → R) → R) (c59 : PV → Int → (PV → R) → R) (c86 : (PV → R) → R) (c87 : (PV → R) → R) (c88 : Int → PV → PV → (PV → R) → R) : Env := { P := Try.prog, nilOwn := fun d => false, fldOwn := fun d i => false, ownPar := ownPars, ownRet := false, mask := f59_msk, fuel := k, C := f59_C c31 c32 c59 c86 c87 c88 }
noncomputable def f59_code : Code := Try.f59.body.getD .skip
noncomputable def f59_e (c31 : PV → Int → (Bool → R) → R) (c32 : PV → (Bool → R) → R) (c59 : PV → Int → (PV → R) → R) (c86 : (PV → R) → R) (c87 : (PV → R) → R) (c88 : Int → PV → PV → (PV → R) → R) (ret0 : PV → R) (p1 : PV) (n2 : Int) : R :=
  bif (decide ((PV.num (PV.fld p1 0)) = (2 : Int))) then
    c31 (PV.fld p1 1) n2 fun b3 =>
    bif b3 then
      c87 fun p4 =>
      ret0 p4
    else c86 fun p5 =>
    ret0 p5
  else bif (decide ((PV.num (PV.fld p1 0)) = (3 : Int))) then
    bif (true && decide ((0 : Int) ≤ (0 : Int)) && decide ((0 : Int) < (List.length (PV.els (PV.fld p1 3)) : Int))) then
      c59 (List.getD (PV.els (PV.fld p1 3)) ((0 : Int)).toNat PV.nil) n2 fun p6 =>
      bif (true && decide ((0 : Int) ≤ (1 : Int)) && decide ((1 : Int) < (List.length (PV.els (PV.fld p1 3)) : Int))) then
        c88 3 p6 (List.getD (PV.els (PV.fld p1 3)) ((1 : Int)).toNat PV.nil) fun p7 =>
        bif (true && decide ((0 : Int) ≤ (0 : Int)) && decide ((0 : Int) < (List.length (PV.els (PV.fld p1 3)) : Int))) then
          c32 (List.getD (PV.els (PV.fld p1 3)) ((0 : Int)).toNat PV.nil) fun b8 =>
          bif b8 then
            bif (true && decide ((0 : Int) ≤ (1 : Int)) && decide ((1 : Int) < (List.length (PV.els (PV.fld p1 3)) : Int))) then
              c59 (List.getD (PV.els (PV.fld p1 3)) ((1 : Int)).toNat PV.nil) n2 fun p9 =>
              c88 4 p7 p9 fun p10 =>
              ret0 p10
            else none
          else ret0 p7
        else none
      else none
    else none
  else bif (decide ((PV.num (PV.fld p1 0)) = (4 : Int))) then
    bif (true && decide ((0 : Int) ≤ (0 : Int)) && decide ((0 : Int) < (List.length (PV.els (PV.fld p1 3)) : Int))) then
      c59 (List.getD (PV.els (PV.fld p1 3)) ((0 : Int)).toNat PV.nil) n2 fun p11 =>
      bif (true && decide ((0 : Int) ≤ (1 : Int)) && decide ((1 : Int) < (List.length (PV.els (PV.fld p1 3)) : Int))) then
        c59 (List.getD (PV.els (PV.fld p1 3)) ((1 : Int)).toNat PV.nil) n2 fun p12 =>
        c88 4 p11 p12 fun p13 =>
        ret0 p13
      else none
    else none
  else bif (decide ((PV.num (PV.fld p1 0)) = (5 : Int))) then
    bif (true && decide ((0 : Int) ≤ (0 : Int)) && decide ((0 : Int) < (List.length (PV.els (PV.fld p1 3)) : Int))) then
      c59 (List.getD (PV.els (PV.fld p1 3)) ((0 : Int)).toNat PV.nil) n2 fun p14 =>
      c88 3 p14 p1 fun p15 =>
      ret0 p15
    else none
  else bif (decide ((PV.num (PV.fld p1 0)) = (6 : Int))) then
    bif (true && decide ((0 : Int) ≤ (0 : Int)) && decide ((0 : Int) < (List.length (PV.els (PV.fld p1 3)) : Int))) then
      c59 (List.getD (PV.els (PV.fld p1 3)) ((0 : Int)).toNat PV.nil) n2 fun p16 =>
      ret0 p16
    else none
  else bif (decide ((PV.num (PV.fld p1 0)) = (7 : Int))) then
    bif (true && decide ((0 : Int) ≤ (0 : Int)) && decide ((0 : Int) < (List.length (PV.els (PV.fld p1 3)) : Int))) then
      c59 (List.getD (PV.els (PV.fld p1 3)) ((0 : Int)).toNat PV.nil) n2 fun p17 =>
      ret0 p17
    else none
  else c86 fun p18 =>
  ret0 p18

theorem f59_e_mem (k : Nat) (c31 : PV → Int → (Bool → R) → R) (c32 : PV → (Bool → R) → R) (c59 : PV → Int → (PV → R) → R) (c86 : (PV → R) → R) (c87 : (PV → R) → R) (c88 : Int → PV → PV → (PV → R) → R) (retF : PV → R) (p1 : PV) (n2 : Int) : exec (f59_E k c31 c32 c59 c86 c87 c88) f59_code (endK (f59_E k c31 c32 c59 c86 c87 c88) Try.f59 [] f59_un retF) ⟨[.val 27 p1, .int .u8 n2, .undef, .undef, .undef, .undef, .undef, .undef, .undef, .undef, .undef, .undef, .undef, .undef, .undef, .undef, .undef, .undef, .undef, .undef, .undef, .undef, .undef, .undef, .undef, .undef, .undef, .undef, .undef, .undef, .undef, .undef, .undef, .undef, .undef, .undef, .undef, .undef, .undef, .undef, .undef, .undef, .undef, .undef, .undef, .undef, .undef, .undef, .undef, .undef, .undef, .undef, .undef, .undef, .undef, .undef, .undef, .undef, .undef, .undef, .undef, .undef, .undef, .undef, .undef, .undef, .undef, .undef, .undef, .undef, .undef, .undef, .undef, .undef, .undef, .undef, .undef], []⟩ = f59_e c31 c32 c59 c86 c87 c88 (fun y0 => retF y0) p1 n2 := by kernel_rfl

noncomputable def f59_N (k : Nat) (c31 : PV → Int → (Bool → R) → R) (c32 : PV → (Bool → R) → R) (c59 : PV → Int → (PV → R) → R) (c86 : (PV → R) → R) (c87 : (PV → R) → R) (c88 : Int → PV → PV → (PV → R) → R) (ret0 : PV → R) (p1 : PV) (n2 : Int) : R :=
  f59_e c31 c32 c59 c86 c87 c88 ret0 p1 n2
theorem f59_eq (k : Nat) (c31 : PV → Int → (Bool → R) → R) (c32 : PV → (Bool → R) → R) (c59 : PV → Int → (PV → R) → R) (c86 : (PV → R) → R) (c87 : (PV → R) → R) (c88 : Int → PV → PV → (PV → R) → R) (retF : PV → R) (p1 : PV) (n2 : Int) : exec (f59_E k c31 c32 c59 c86 c87 c88) f59_code (endK (f59_E k c31 c32 c59 c86 c87 c88) Try.f59 [] f59_un retF) ⟨[.val 27 p1, .int .u8 n2, .undef, .undef, .undef, .undef, .undef, .undef, .undef, .undef, .undef, .undef, .undef, .undef, .undef, .undef, .undef, .undef, .undef, .undef, .undef, .undef, .undef, .undef, .undef, .undef, .undef, .undef, .undef, .undef, .undef, .undef, .undef, .undef, .undef, .undef, .undef, .undef, .undef, .undef, .undef, .undef, .undef, .undef, .undef, .undef, .undef, .undef, .undef, .undef, .undef, .undef, .undef, .undef, .undef, .undef, .undef, .undef, .undef, .undef, .undef, .undef, .undef, .undef, .undef, .undef, .undef, .undef, .undef, .undef, .undef, .undef, .undef, .undef, .undef, .undef, .undef], []⟩ = f59_N k c31 c32 c59 c86 c87 c88 (fun y0 => retF y0) p1 n2 :=
  (f59_e_mem k c31 c32 c59 c86 c87 c88 retF p1 n2)

noncomputable def G59 : Nat → PV → Int → (PV → R) → R
  | 0, _, _, _ => none
  | k + 1, p1, n2, ret0 => f59_N k (G31 k) (G32 k) (G59 k) (G86 k) (G87 k) (G88 k) ret0 p1 n2
theorem S59 : ∀ k, Snd Try.prog 59 f59_I f59_O (fun x ret => G59 k x.1 x.2 (fun y0 => ret y0))
  | 0 => snd_none
  | k + 1 => snd_step (E := f59_E k (G31 k) (G32 k) (G59 k) (G86 k) (G87 k) (G88 k)) rfl laidOut noNums (orc_ok (S31 k).o f31_D_ok (orc_ok (S32 k).o f32_D_ok (orc_ok (S59 k).o f59_D_ok (orc_ok (S86 k).o f86_D_ok (orc_ok (S87 k).o f87_D_ok (orc_ok (S88 k).o f88_D_ok orc0_ok)))))) (f := 59) (fn := Try.f59) (code := f59_code) Try.func59 (by kernel_rfl) (drawsOk_of laidOut (orc_ok (S31 k).o f31_D_ok (orc_ok (S32 k).o f32_D_ok (orc_ok (S59 k).o f59_D_ok (orc_ok (S86 k).o f86_D_ok (orc_ok (S87 k).o f87_D_ok (orc_ok (S88 k).o f88_D_ok orc0_ok)))))) mixed (by kernel_rfl)) f59_un f59_un_ok [] (fun _ => rfl)
      (fun x ret => f59_eq k (G31 k) (G32 k) (G59 k) (G86 k) (G87 k) (G88 k) ret x.1 x.2)

/- math/bits.OnesCount64 -/
noncomputable def f111_I : Int → List SV × Obs := fun x => ([.int .u64 x], [])
noncomputable def f111_D : List SV → Obs → Option (Int)
  | [.int .u64 n1], [] => some n1
  | _, _ => none
theorem f111_D_ok (args : List SV) (B : Obs) (x : Int) (h : f111_D args B = some x) : f111_I x = (args, B) := by
  unfold f111_D at h
  split at h
  · injection h with h; subst h; rfl
  · cases h
noncomputable def f111_O : Int → Out := (fun y => ([.int .i64 y], []))
noncomputable def f111_un : Out → Option (Int)
  | ([.int .i64 y0], []) => some y0
  | _ => none
theorem f111_un_ok (o : Out) (y : Int) (h : f111_un o = some y) : o = f111_O y := by
  unfold f111_un at h
  split at h
  · injection h with h; subst h; rfl
  · cases h
noncomputable def f111_msk : Nat → Option (List Nat) := fun key =>  none
noncomputable def f111_C : Oracle := orc0
noncomputable def f111_E (k : Nat) : Env := { P := Try.prog, nilOwn := fun d => false, fldOwn := fun d i => false, ownPar := ownPars, ownRet := false, mask := f111_msk, fuel := k, C := f111_C }
noncomputable def f111_code : Code := Try.f111.body.getD .skip
noncomputable def f111_e (ret0 : Int → R) (n1 : Int) : R :=
  let n2 : Int := (IntKind.wrap .u64 ((intBit .and .u64 (Int.fdiv n1 (2 ^ (min ((1 : Int)).toNat 64))) 6148914691236517205) + (intBit .and .u64 n1 6148914691236517205)))
  let n3 : Int := (IntKind.wrap .u64 ((intBit .and .u64 (Int.fdiv n2 (2 ^ (min ((2 : Int)).toNat 64))) 3689348814741910323) + (intBit .and .u64 n2 3689348814741910323)))
  let n4 : Int := (intBit .and .u64 (IntKind.wrap .u64 ((Int.fdiv n3 (2 ^ (min ((4 : Int)).toNat 64))) + n3)) 1085102592571150095)
  let n5 : Int := (Int.fdiv (IntKind.wrap .u64 (n4 + (Int.fdiv n4 (2 ^ (min ((8 : Int)).toNat 64))))) (2 ^ (min ((16 : Int)).toNat 64)))
  let n6 : Int := (Int.fdiv (IntKind.wrap .u64 ((IntKind.wrap .u64 (n4 + (Int.fdiv n4 (2 ^ (min ((8 : Int)).toNat 64))))) + n5)) (2 ^ (min ((32 : Int)).toNat 64)))
  let n7 : Int := (IntKind.wrap .u64 ((IntKind.wrap .u64 ((IntKind.wrap .u64 (n4 + (Int.fdiv n4 (2 ^ (min ((8 : Int)).toNat 64))))) + n5)) + n6))
  ret0 (intBit .and .i64 (IntKind.wrap .i64 n7) 127)

theorem f111_e_mem (k : Nat) (retF : Int → R) (n1 : Int) : exec (f111_E k) f111_code (endK (f111_E k) Try.f111 [] f111_un retF) ⟨[.int .u64 n1, .undef, .undef, .undef, .undef, .undef, .undef, .undef, .undef, .undef, .undef, .undef, .undef, .undef, .undef, .undef, .undef, .undef, .undef, .undef, .undef, .undef, .undef, .undef, .undef, .undef, .undef, .undef, .undef, .undef, .undef, .undef, .undef, .undef, .undef], []⟩ = f111_e (fun y0 => retF y0) n1 := by kernel_rfl

noncomputable def f111_N (k : Nat) (ret0 : Int → R) (n1 : Int) : R :=
  f111_e ret0 n1
theorem f111_eq (k : Nat) (retF : Int → R) (n1 : Int) : exec (f111_E k) f111_code (endK (f111_E k) Try.f111 [] f111_un retF) ⟨[.int .u64 n1, .undef, .undef, .undef, .undef, .undef, .undef, .undef, .undef, .undef, .undef, .undef, .undef, .undef, .undef, .undef, .undef, .undef, .undef, .undef, .undef, .undef, .undef, .undef, .undef, .undef, .undef, .undef, .undef, .undef, .undef, .undef, .undef, .undef, .undef], []⟩ = f111_N k (fun y0 => retF y0) n1 :=
  (f111_e_mem k retF n1)

noncomputable def G111 : Nat → Int → (Int → R) → R
  | 0, _, _ => none
  | k + 1, n1, ret0 => f111_N k  ret0 n1
theorem S111 : ∀ k, Snd Try.prog 111 f111_I f111_O (fun x ret => G111 k x (fun y0 => ret y0))
  | 0 => snd_none
  | k + 1 => snd_step (E := f111_E k ) rfl laidOut noNums orc0_ok (f := 111) (fn := Try.f111) (code := f111_code) Try.func111 (by kernel_rfl) (drawsOk_of laidOut orc0_ok mixed (by kernel_rfl)) f111_un f111_un_ok [] (fun _ => rfl)
      (fun x ret => f111_eq k  ret x)

/- (catchpole/byteset.Set).Len -/
noncomputable def f85_I : PV → List SV × Obs := fun x => ([.val 24 x], [])
noncomputable def f85_D : List SV → Obs → Option (PV)
  | [.val 24 p1], [] => some p1
  | _, _ => none
theorem f85_D_ok (args : List SV) (B : Obs) (x : PV) (h : f85_D args B = some x) : f85_I x = (args, B) := by
  unfold f85_D at h
  split at h
  · injection h with h; subst h; rfl
  · cases h
noncomputable def f85_O : Int → Out := (fun y => ([.int .i64 y], []))
noncomputable def f85_un : Out → Option (Int)
  | ([.int .i64 y0], []) => some y0
  | _ => none
theorem f85_un_ok (o : Out) (y : Int) (h : f85_un o = some y) : o = f85_O y := by
  unfold f85_un at h
  split at h
  · injection h with h; subst h; rfl
  · cases h
noncomputable def f85_msk : Nat → Option (List Nat) := fun key => bif key == 9 then some [3, 6, 7] else none
noncomputable def f85_C (c111 : Int → (Int → R) → R) : Oracle := orc 111 f111_D f111_O (fun x ret => c111 x (fun y0 => ret y0)) <| orc0
noncomputable def f85_E (k : Nat) (c111 : Int → (Int → R) → R) : Env := { P := Try.prog, nilOwn := fun d => false, fldOwn := fun d i => false, ownPar := ownPars, ownRet := false, mask := f85_msk, fuel := k, C := f85_C c111 }
noncomputable def f85_code : Code := Try.f85.body.getD .skip
noncomputable def f85_cw1 : Code := subC f85_code [1, 1, 0, 1, 0, 0]
noncomputable def f85_hw1_0 (p1 : PV) (n3 : Int) (n4 : Int) : St := ⟨[.dead, .dead, .dead, .int .i64 n3, .dead, .dead, .val 24 p1, .int .i64 n4, .dead, .dead, .dead, .dead, .dead, .dead, .dead, .dead], []⟩
noncomputable def f85_w1A (k : Nat) (c111 : Int → (Int → R) → R) (retF : Int → R) (p1 : PV) (n3 : Int) (n4 : Int) : R := loopM (f85_E k c111) f85_cw1 (kont (f85_E k c111) f85_code [1, 1, 0, 1, 0] (endK (f85_E k c111) Try.f85 [] f85_un retF)) k (f85_hw1_0 p1 n3 n4)
noncomputable def f85_w1b0 (c111 : Int → (Int → R) → R) (ret0 : Int → R) (next_w1_0 : Int → Int → R) (p1 : PV) (n3 : Int) (n4 : Int) : R :=
  bif (decide (n4 < (4 : Int))) then
    bif (true && decide ((0 : Int) ≤ n4) && decide (n4 < 4)) then
      c111 (PV.num (PV.fld p1 (n4).toNat)) fun n5 =>
      next_w1_0 (IntKind.wrap .i64 (n3 + n5)) (IntKind.wrap .i64 (n4 + (1 : Int)))
    else none
  else ret0 n3

theorem f85_w1b0_mem (k : Nat) (c111 : Int → (Int → R) → R) (retF : Int → R) (NX_w1 : St → R) (p1 : PV) (n3 : Int) (n4 : Int) : exec (f85_E k c111) f85_cw1 (purgeK (f85_E k c111) f85_cw1 (loopK NX_w1 (kont (f85_E k c111) f85_code [1, 1, 0, 1, 0] (endK (f85_E k c111) Try.f85 [] f85_un retF)))) (f85_hw1_0 p1 n3 n4) = f85_w1b0 c111 (fun y0 => retF y0) (fun n3 n4 => NX_w1 (f85_hw1_0 p1 n3 n4)) p1 n3 n4 := by kernel_rfl

noncomputable def f85_w1b0N (k : Nat) (c111 : Int → (Int → R) → R) (ret0 : Int → R) (next_w1_0 : Int → Int → R) (p1 : PV) (n3 : Int) (n4 : Int) : R :=
  f85_w1b0 c111 ret0 next_w1_0 p1 n3 n4
theorem f85_w1b0_eq (k : Nat) (c111 : Int → (Int → R) → R) (retF : Int → R) (NX_w1 : St → R) (p1 : PV) (n3 : Int) (n4 : Int) : exec (f85_E k c111) f85_cw1 (purgeK (f85_E k c111) f85_cw1 (loopK NX_w1 (kont (f85_E k c111) f85_code [1, 1, 0, 1, 0] (endK (f85_E k c111) Try.f85 [] f85_un retF)))) (f85_hw1_0 p1 n3 n4) = f85_w1b0N k c111 (fun y0 => retF y0) (fun n3 n4 => NX_w1 (f85_hw1_0 p1 n3 n4)) p1 n3 n4 :=
  (f85_w1b0_mem k c111 retF NX_w1 p1 n3 n4)

noncomputable def f85_w1B (k : Nat) (c111 : Int → (Int → R) → R) (ret0 : Int → R) (p1 : PV) (nx : Int × Int → R) : Int × Int → R := (fun s => f85_w1b0N k c111 ret0 (fun n3 n4 => nx (n3, n4)) p1 s.1 s.2)
noncomputable def f85_w1N (k : Nat) (c111 : Int → (Int → R) → R) (ret0 : Int → R) (p1 : PV) (n3 : Int) (n4 : Int) : R := loopR (f85_w1B k c111 ret0 p1) k (n3, n4)
theorem f85_w1_eq (k : Nat) (c111 : Int → (Int → R) → R) (retF : Int → R) (p1 : PV) (n3 : Int) (n4 : Int) : f85_w1A k c111 retF p1 n3 n4 = f85_w1N k c111 (fun y0 => retF y0) p1 n3 n4 :=
  Eq.mp (by kernel_rfl) (loop_sim (E := (f85_E k c111)) (c := f85_cw1) (K := (kont (f85_E k c111) f85_code [1, 1, 0, 1, 0] (endK (f85_E k c111) Try.f85 [] f85_un retF))) (S := Int × Int) (fun s => f85_hw1_0 p1 s.1 s.2) (f85_w1B k c111 (fun y0 => retF y0) p1) (fun NX s => by
    exact Eq.mp (by kernel_rfl) (f85_w1b0_eq k c111 retF NX p1 s.1 s.2)) k (n3, n4))

noncomputable def f85_e (c111 : Int → (Int → R) → R) (ret0 : Int → R) (w1 : Int → Int → R) (p1 : PV) : R :=
  w1 0 0

theorem f85_e_mem (k : Nat) (c111 : Int → (Int → R) → R) (retF : Int → R) (p1 : PV) : exec (f85_E k c111) f85_code (endK (f85_E k c111) Try.f85 [] f85_un retF) ⟨[.val 24 p1, .undef, .undef, .undef, .undef, .undef, .undef, .undef, .undef, .undef, .undef, .undef, .undef, .undef, .undef, .undef], []⟩ = f85_e c111 (fun y0 => retF y0) (fun n3 n4 => f85_w1A k c111 retF p1 n3 n4) p1 := by kernel_rfl

noncomputable def f85_N (k : Nat) (c111 : Int → (Int → R) → R) (ret0 : Int → R) (p1 : PV) : R :=
  f85_e c111 ret0 (fun n3 n4 => f85_w1N k c111 ret0 p1 n3 n4) p1
theorem f85_eq (k : Nat) (c111 : Int → (Int → R) → R) (retF : Int → R) (p1 : PV) : exec (f85_E k c111) f85_code (endK (f85_E k c111) Try.f85 [] f85_un retF) ⟨[.val 24 p1, .undef, .undef, .undef, .undef, .undef, .undef, .undef, .undef, .undef, .undef, .undef, .undef, .undef, .undef, .undef], []⟩ = f85_N k c111 (fun y0 => retF y0) p1 :=
  (f85_e_mem k c111 retF p1).trans (by rw [show (fun n3 n4 => f85_w1A k c111 retF p1 n3 n4) = (fun n3 n4 => f85_w1N k c111 (fun y0 => retF y0) p1 n3 n4) from funext fun n3 => funext fun n4 => f85_w1_eq k c111 retF p1 n3 n4]; rfl)

noncomputable def G85 : Nat → PV → (Int → R) → R
  | 0, _, _ => none
  | k + 1, p1, ret0 => f85_N k (G111 k) ret0 p1
theorem S85 : ∀ k, Snd Try.prog 85 f85_I f85_O (fun x ret => G85 k x (fun y0 => ret y0))
  | 0 => snd_none
  | k + 1 => snd_step (E := f85_E k (G111 k)) rfl laidOut noNums (orc_ok (S111 k).o f111_D_ok orc0_ok) (f := 85) (fn := Try.f85) (code := f85_code) Try.func85 (by kernel_rfl) (drawsOk_of laidOut (orc_ok (S111 k).o f111_D_ok orc0_ok) mixed (by kernel_rfl)) f85_un f85_un_ok [] (fun _ => rfl)
      (fun x ret => f85_eq k (G111 k) ret x)

/- catchpole/deriv.tidy$1 -/
noncomputable def f84_I : Int × Int × (List PV) → List SV × Obs := fun x => ([.int .i64 x.1, .int .i64 x.2.1, .ptr 6000000 []], [(6000000, .box 25 (.own 25 6000001)), (6000001, .row 27 x.2.2)])
noncomputable def f84_D : List SV → Obs → Option (Int × Int × (List PV))
  | [.int .i64 n1, .int .i64 n2, .ptr 6000000 []], [(6000000, .box 25 (.own 25 6000001)), (6000001, .row 27 l3)] => some (n1, n2, l3)
  | _, _ => none
theorem f84_D_ok (args : List SV) (B : Obs) (x : Int × Int × (List PV)) (h : f84_D args B = some x) : f84_I x = (args, B) := by
  unfold f84_D at h
  split at h
  · injection h with h; subst h; rfl
  · cases h
noncomputable def f84_O : Bool × (List PV) → Out := (fun y => ([.bool y.1], [(6000000, .box 25 (.own 25 6000001)), (6000001, .row 27 y.2)]))
noncomputable def f84_un : Out → Option (Bool × (List PV))
  | ([.bool y0], [(6000000, .box 25 (.own 25 6000001)), (6000001, .row 27 y1)]) => some (y0, y1)
  | _ => none
theorem f84_un_ok (o : Out) (y : Bool × (List PV)) (h : f84_un o = some y) : o = f84_O y := by
  unfold f84_un at h
  split at h
  · injection h with h; subst h; rfl
  · cases h
noncomputable def f84_msk : Nat → Option (List Nat) := fun key =>  none
noncomputable def f84_C : Oracle := orc0
noncomputable def f84_E (k : Nat) : Env := { P := Try.prog, nilOwn := fun d => false, fldOwn := fun d i => false, ownPar := ownPars, ownRet := false, mask := f84_msk, fuel := k, C := f84_C }
noncomputable def f84_code : Code := Try.f84.body.getD .skip
noncomputable def f84_e (ret0 : Bool → (List PV) → R) (n1 : Int) (n2 : Int) (l3 : List PV) : R :=
  bif (true && true && decide ((0 : Int) ≤ n1) && decide (n1 < (List.length l3 : Int))) then
    ret0 (decide ((PV.num (PV.fld (List.getD l3 (n1).toNat PV.nil) 0)) = n2)) l3
  else none

theorem f84_e_mem (k : Nat) (retF : Bool × (List PV) → R) (n1 : Int) (n2 : Int) (l3 : List PV) : exec (f84_E k) f84_code (endK (f84_E k) Try.f84 [6000000, 6000001] f84_un retF) ⟨[.int .i64 n1, .int .i64 n2, .ptr 6000000 [], .undef, .undef, .undef, .undef, .undef, .undef, .undef, .undef, .undef, .undef], [(6000000, .box 25 (.own 25 6000001)), (6000001, .row 27 l3)]⟩ = f84_e (fun y0 y1 => retF (y0, y1)) n1 n2 l3 := by kernel_rfl

noncomputable def f84_N (k : Nat) (ret0 : Bool → (List PV) → R) (n1 : Int) (n2 : Int) (l3 : List PV) : R :=
  f84_e ret0 n1 n2 l3
theorem f84_eq (k : Nat) (retF : Bool × (List PV) → R) (n1 : Int) (n2 : Int) (l3 : List PV) : exec (f84_E k) f84_code (endK (f84_E k) Try.f84 [6000000, 6000001] f84_un retF) ⟨[.int .i64 n1, .int .i64 n2, .ptr 6000000 [], .undef, .undef, .undef, .undef, .undef, .undef, .undef, .undef, .undef, .undef], [(6000000, .box 25 (.own 25 6000001)), (6000001, .row 27 l3)]⟩ = f84_N k (fun y0 y1 => retF (y0, y1)) n1 n2 l3 :=
  (f84_e_mem k retF n1 n2 l3)

noncomputable def G84 : Nat → Int → Int → (List PV) → (Bool → (List PV) → R) → R
  | 0, _, _, _, _ => none
  | k + 1, n1, n2, l3, ret0 => f84_N k  ret0 n1 n2 l3
theorem S84 : ∀ k, Snd Try.prog 84 f84_I f84_O (fun x ret => G84 k x.1 x.2.1 x.2.2 (fun y0 y1 => ret (y0, y1)))
  | 0 => snd_none
  | k + 1 => snd_step (E := f84_E k ) rfl laidOut noNums orc0_ok (f := 84) (fn := Try.f84) (code := f84_code) Try.func84 (by kernel_rfl) (drawsOk_of laidOut orc0_ok mixed (by kernel_rfl)) f84_un f84_un_ok [6000000, 6000001] (fun _ => rfl)
      (fun x ret => f84_eq k  ret x.1 x.2.1 x.2.2)

/- slices.EqualFunc[[]catchpole/core.Core,[]catchpole/core.Core,catchpole/core.Core,catchpole/core.Core] -/
noncomputable def f58_I : PV × PV → List SV × Obs := fun x => ([.val 25 x.1, .val 25 x.2, .fn 18 []], [])
noncomputable def f58_D : List SV → Obs → Option (PV × PV)
  | [.val 25 p1, .val 25 p2, .fn 18 []], [] => some (p1, p2)
  | _, _ => none
theorem f58_D_ok (args : List SV) (B : Obs) (x : PV × PV) (h : f58_D args B = some x) : f58_I x = (args, B) := by
  unfold f58_D at h
  split at h
  · injection h with h; subst h; rfl
  · cases h
noncomputable def f58_O : Bool → Out := (fun y => ([.bool y], []))
noncomputable def f58_un : Out → Option (Bool)
  | ([.bool y0], []) => some y0
  | _ => none
theorem f58_un_ok (o : Out) (y : Bool) (h : f58_un o = some y) : o = f58_O y := by
  unfold f58_un at h
  split at h
  · injection h with h; subst h; rfl
  · cases h
/- catchpole/core.Same -/
noncomputable def f18_I : PV × PV → List SV × Obs := fun x => ([.val 27 x.1, .val 27 x.2], [])
noncomputable def f18_D : List SV → Obs → Option (PV × PV)
  | [.val 27 p1, .val 27 p2], [] => some (p1, p2)
  | _, _ => none
theorem f18_D_ok (args : List SV) (B : Obs) (x : PV × PV) (h : f18_D args B = some x) : f18_I x = (args, B) := by
  unfold f18_D at h
  split at h
  · injection h with h; subst h; rfl
  · cases h
noncomputable def f18_O : Bool → Out := (fun y => ([.bool y], []))
noncomputable def f18_un : Out → Option (Bool)
  | ([.bool y0], []) => some y0
  | _ => none
theorem f18_un_ok (o : Out) (y : Bool) (h : f18_un o = some y) : o = f18_O y := by
  unfold f18_un at h
  split at h
  · injection h with h; subst h; rfl
  · cases h
noncomputable def f58_msk : Nat → Option (List Nat) := fun key => bif key == 12 then some [1, 2, 15, 16, 17] else none
noncomputable def f58_C (c18 : PV → PV → (Bool → R) → R) : Oracle := orc 18 f18_D f18_O (fun x ret => c18 x.1 x.2 (fun y0 => ret y0)) <| orc0
noncomputable def f58_E (k : Nat) (c18 : PV → PV → (Bool → R) → R) : Env := { P := Try.prog, nilOwn := fun d => false, fldOwn := fun d i => false, ownPar := ownPars, ownRet := false, mask := f58_msk, fuel := k, C := f58_C c18 }
noncomputable def f58_code : Code := Try.f58.body.getD .skip
noncomputable def f58_cw1 : Code := subC f58_code [1, 1, 0, 1, 0, 0]
noncomputable def f58_hw1_0 (p1 : PV) (p2 : PV) (n4 : Int) : St := ⟨[.dead, .val 25 p2, .fn 18 [], .dead, .dead, .dead, .dead, .dead, .dead, .dead, .dead, .dead, .dead, .dead, .dead, .val 25 p1, .int .i64 (List.length (PV.els p1) : Int), .int .i64 n4, .dead, .dead, .dead, .dead, .dead, .dead, .dead, .dead, .dead, .dead, .dead, .dead, .dead, .dead], []⟩
noncomputable def f58_w1A (k : Nat) (c18 : PV → PV → (Bool → R) → R) (retF : Bool → R) (p1 : PV) (p2 : PV) (n4 : Int) : R := loopM (f58_E k c18) f58_cw1 (kont (f58_E k c18) f58_code [1, 1, 0, 1, 0] (endK (f58_E k c18) Try.f58 [] f58_un retF)) k (f58_hw1_0 p1 p2 n4)
noncomputable def f58_w1b0 (c18 : PV → PV → (Bool → R) → R) (ret0 : Bool → R) (next_w1_0 : Int → R) (p1 : PV) (p2 : PV) (n4 : Int) : R :=
  bif (decide (n4 < (List.length (PV.els p1) : Int))) then
    bif (true && decide ((0 : Int) ≤ n4) && decide (n4 < (List.length (PV.els p1) : Int))) then
      bif (true && decide ((0 : Int) ≤ n4) && decide (n4 < (List.length (PV.els p2) : Int))) then
        c18 (List.getD (PV.els p1) (n4).toNat PV.nil) (List.getD (PV.els p2) (n4).toNat PV.nil) fun b5 =>
        bif (!b5) then
          ret0 false
        else next_w1_0 (IntKind.wrap .i64 (n4 + (1 : Int)))
      else none
    else none
  else ret0 true

theorem f58_w1b0_mem (k : Nat) (c18 : PV → PV → (Bool → R) → R) (retF : Bool → R) (NX_w1 : St → R) (p1 : PV) (p2 : PV) (n4 : Int) : exec (f58_E k c18) f58_cw1 (purgeK (f58_E k c18) f58_cw1 (loopK NX_w1 (kont (f58_E k c18) f58_code [1, 1, 0, 1, 0] (endK (f58_E k c18) Try.f58 [] f58_un retF)))) (f58_hw1_0 p1 p2 n4) = f58_w1b0 c18 (fun y0 => retF y0) (fun n4 => NX_w1 (f58_hw1_0 p1 p2 n4)) p1 p2 n4 := by kernel_rfl

noncomputable def f58_w1b0N (k : Nat) (c18 : PV → PV → (Bool → R) → R) (ret0 : Bool → R) (next_w1_0 : Int → R) (p1 : PV) (p2 : PV) (n4 : Int) : R :=
  f58_w1b0 c18 ret0 next_w1_0 p1 p2 n4
theorem f58_w1b0_eq (k : Nat) (c18 : PV → PV → (Bool → R) → R) (retF : Bool → R) (NX_w1 : St → R) (p1 : PV) (p2 : PV) (n4 : Int) : exec (f58_E k c18) f58_cw1 (purgeK (f58_E k c18) f58_cw1 (loopK NX_w1 (kont (f58_E k c18) f58_code [1, 1, 0, 1, 0] (endK (f58_E k c18) Try.f58 [] f58_un retF)))) (f58_hw1_0 p1 p2 n4) = f58_w1b0N k c18 (fun y0 => retF y0) (fun n4 => NX_w1 (f58_hw1_0 p1 p2 n4)) p1 p2 n4 :=
  (f58_w1b0_mem k c18 retF NX_w1 p1 p2 n4)

noncomputable def f58_w1B (k : Nat) (c18 : PV → PV → (Bool → R) → R) (ret0 : Bool → R) (p1 : PV) (p2 : PV) (nx : Int → R) : Int → R := (fun s => f58_w1b0N k c18 ret0 (fun n4 => nx n4) p1 p2 s)
noncomputable def f58_w1N (k : Nat) (c18 : PV → PV → (Bool → R) → R) (ret0 : Bool → R) (p1 : PV) (p2 : PV) (n4 : Int) : R := loopR (f58_w1B k c18 ret0 p1 p2) k n4
theorem f58_w1_eq (k : Nat) (c18 : PV → PV → (Bool → R) → R) (retF : Bool → R) (p1 : PV) (p2 : PV) (n4 : Int) : f58_w1A k c18 retF p1 p2 n4 = f58_w1N k c18 (fun y0 => retF y0) p1 p2 n4 :=
  Eq.mp (by kernel_rfl) (loop_sim (E := (f58_E k c18)) (c := f58_cw1) (K := (kont (f58_E k c18) f58_code [1, 1, 0, 1, 0] (endK (f58_E k c18) Try.f58 [] f58_un retF))) (S := Int) (fun s => f58_hw1_0 p1 p2 s) (f58_w1B k c18 (fun y0 => retF y0) p1 p2) (fun NX s => by
    exact Eq.mp (by kernel_rfl) (f58_w1b0_eq k c18 retF NX p1 p2 s)) k n4)

noncomputable def f58_e (c18 : PV → PV → (Bool → R) → R) (ret0 : Bool → R) (w1 : Int → R) (p1 : PV) (p2 : PV) : R :=
  bif (!(decide ((List.length (PV.els p1) : Int) = (List.length (PV.els p2) : Int)))) then
    ret0 false
  else w1 0

theorem f58_e_mem (k : Nat) (c18 : PV → PV → (Bool → R) → R) (retF : Bool → R) (p1 : PV) (p2 : PV) : exec (f58_E k c18) f58_code (endK (f58_E k c18) Try.f58 [] f58_un retF) ⟨[.val 25 p1, .val 25 p2, .fn 18 [], .undef, .undef, .undef, .undef, .undef, .undef, .undef, .undef, .undef, .undef, .undef, .undef, .undef, .undef, .undef, .undef, .undef, .undef, .undef, .undef, .undef, .undef, .undef, .undef, .undef, .undef, .undef, .undef, .undef], []⟩ = f58_e c18 (fun y0 => retF y0) (fun n4 => f58_w1A k c18 retF p1 p2 n4) p1 p2 := by kernel_rfl

noncomputable def f58_N (k : Nat) (c18 : PV → PV → (Bool → R) → R) (ret0 : Bool → R) (p1 : PV) (p2 : PV) : R :=
  f58_e c18 ret0 (fun n4 => f58_w1N k c18 ret0 p1 p2 n4) p1 p2
theorem f58_eq (k : Nat) (c18 : PV → PV → (Bool → R) → R) (retF : Bool → R) (p1 : PV) (p2 : PV) : exec (f58_E k c18) f58_code (endK (f58_E k c18) Try.f58 [] f58_un retF) ⟨[.val 25 p1, .val 25 p2, .fn 18 [], .undef, .undef, .undef, .undef, .undef, .undef, .undef, .undef, .undef, .undef, .undef, .undef, .undef, .undef, .undef, .undef, .undef, .undef, .undef, .undef, .undef, .undef, .undef, .undef, .undef, .undef, .undef, .undef, .undef], []⟩ = f58_N k c18 (fun y0 => retF y0) p1 p2 :=
  (f58_e_mem k c18 retF p1 p2).trans (by rw [show (fun n4 => f58_w1A k c18 retF p1 p2 n4) = (fun n4 => f58_w1N k c18 (fun y0 => retF y0) p1 p2 n4) from funext fun n4 => f58_w1_eq k c18 retF p1 p2 n4]; rfl)

noncomputable def f18_msk : Nat → Option (List Nat) := fun key =>  none
noncomputable def f18_C (c58 : PV → PV → (Bool → R) → R) : Oracle := orc 58 f58_D f58_O (fun x ret => c58 x.1 x.2 (fun y0 => ret y0)) <| orc0
noncomputable def f18_E (k : Nat) (c58 : PV → PV → (Bool → R) → R) : Env := { P := Try.prog, nilOwn := fun d => false, fldOwn := fun d i => false, ownPar := ownPars, ownRet := false, mask := f18_msk, fuel := k, C := f18_C c58 }
noncomputable def f18_code : Code := Try.f18.body.getD .skip
noncomputable def f18_e (c58 : PV → PV → (Bool → R) → R) (ret0 : Bool → R) (p1 : PV) (p2 : PV) : R :=
  bif ((decide ((PV.num (PV.fld p1 0)) = (PV.num (PV.fld p2 0)))) == true) then
    bif ((PV.beq (PV.fld p1 1) (PV.fld p2 1)) == true) then
      bif ((decide ((PV.num (PV.fld p1 2)) = (PV.num (PV.fld p2 2)))) == true) then
        c58 (PV.fld p1 3) (PV.fld p2 3) fun b3 =>
        ret0 b3
      else ret0 false
    else ret0 false
  else ret0 false

theorem f18_e_mem (k : Nat) (c58 : PV → PV → (Bool → R) → R) (retF : Bool → R) (p1 : PV) (p2 : PV) : exec (f18_E k c58) f18_code (endK (f18_E k c58) Try.f18 [] f18_un retF) ⟨[.val 27 p1, .val 27 p2, .undef, .undef, .undef, .undef, .undef, .undef, .undef, .undef, .undef, .undef, .undef, .undef, .undef, .undef, .undef, .undef, .undef, .undef, .undef, .undef, .undef, .undef, .undef, .undef, .undef, .undef, .undef, .undef, .undef], []⟩ = f18_e c58 (fun y0 => retF y0) p1 p2 := by kernel_rfl

noncomputable def f18_N (k : Nat) (c58 : PV → PV → (Bool → R) → R) (ret0 : Bool → R) (p1 : PV) (p2 : PV) : R :=
  f18_e c58 ret0 p1 p2
theorem f18_eq (k : Nat) (c58 : PV → PV → (Bool → R) → R) (retF : Bool → R) (p1 : PV) (p2 : PV) : exec (f18_E k c58) f18_code (endK (f18_E k c58) Try.f18 [] f18_un retF) ⟨[.val 27 p1, .val 27 p2, .undef, .undef, .undef, .undef, .undef, .undef, .undef, .undef, .undef, .undef, .undef, .undef, .undef, .undef, .undef, .undef, .undef, .undef, .undef, .undef, .undef, .undef, .undef, .undef, .undef, .undef, .undef, .undef, .undef], []⟩ = f18_N k c58 (fun y0 => retF y0) p1 p2 :=
  (f18_e_mem k c58 retF p1 p2)

mutual
noncomputable def G58 : Nat → PV → PV → (Bool → R) → R
  | 0, _, _, _ => none
  | k + 1, p1, p2, ret0 => f58_N k (G18 k) ret0 p1 p2
noncomputable def G18 : Nat → PV → PV → (Bool → R) → R
  | 0, _, _, _ => none
  | k + 1, p1, p2, ret0 => f18_N k (G58 k) ret0 p1 p2
end
mutual
theorem S58 : ∀ k, Snd Try.prog 58 f58_I f58_O (fun x ret => G58 k x.1 x.2 (fun y0 => ret y0))
  | 0 => snd_none
  | k + 1 => snd_step (E := f58_E k (G18 k)) rfl laidOut noNums (orc_ok (S18 k).o f18_D_ok orc0_ok) (f := 58) (fn := Try.f58) (code := f58_code) Try.func58 (by kernel_rfl) (drawsOk_of laidOut (orc_ok (S18 k).o f18_D_ok orc0_ok) mixed (by kernel_rfl)) f58_un f58_un_ok [] (fun _ => rfl)
      (fun x ret => f58_eq k (G18 k) ret x.1 x.2)
theorem S18 : ∀ k, Snd Try.prog 18 f18_I f18_O (fun x ret => G18 k x.1 x.2 (fun y0 => ret y0))
  | 0 => snd_none
  | k + 1 => snd_step (E := f18_E k (G58 k)) rfl laidOut noNums (orc_ok (S58 k).o f58_D_ok orc0_ok) (f := 18) (fn := Try.f18) (code := f18_code) Try.func18 (by kernel_rfl) (drawsOk_of laidOut (orc_ok (S58 k).o f58_D_ok orc0_ok) mixed (by kernel_rfl)) f18_un f18_un_ok [] (fun _ => rfl)
      (fun x ret => f18_eq k (G58 k) ret x.1 x.2)
end

/- catchpole/deriv.tidy -/
noncomputable def f57_I : PV → List SV × Obs := fun x => ([.val 27 x], [])
noncomputable def f57_D : List SV → Obs → Option (PV)
  | [.val 27 p1], [] => some p1
  | _, _ => none
theorem f57_D_ok (args : List SV) (B : Obs) (x : PV) (h : f57_D args B = some x) : f57_I x = (args, B) := by
  unfold f57_D at h
  split at h
  · injection h with h; subst h; rfl
  · cases h
noncomputable def f57_O : PV → Out := (fun y => ([.val 27 y], []))
noncomputable def f57_un : Out → Option (PV)
  | ([.val 27 y0], []) => some y0
  | _ => none
theorem f57_un_ok (o : Out) (y : PV) (h : f57_un o = some y) : o = f57_O y := by
  unfold f57_un at h
  split at h
  · injection h with h; subst h; rfl
  · cases h
noncomputable def f57_msk : Nat → Option (List Nat) := fun key => bif key == 9 then some [1, 2, 3, 8, 9, 10] else none
noncomputable def f57_C (c18 : PV → PV → (Bool → R) → R) (c57 : PV → (PV → R) → R) (c84 : Int → Int → (List PV) → (Bool → (List PV) → R) → R) (c85 : PV → (Int → R) → R) (c86 : (PV → R) → R) (c87 : (PV → R) → R) : Oracle := orc 18 f18_D f18_O (fun x ret => c18 x.1 x.2 (fun y0 => ret y0)) <| orc 57 f57_D f57_O (fun x ret => c57 x (fun y0 => ret y0)) <| orc 84 f84_D f84_O (fun x ret => c84 x.1 x.2.1 x.2.2 (fun y0 y1 => ret (y0, y1))) <| orc 85 f85_D f85_O (fun x ret => c85 x (fun y0 => ret y0)) <| orc 86 f86_D f86_O (fun x ret => c86 (fun y0 => ret y0)) <| orc 87 f87_D f87_O (fun x ret => c87 (fun y0 => ret y0)) <| orc0
noncomputable def f57_E (k : Nat) (c18 : PV → PV → (Bool → R) → R) (c57 : PV → (PV → R) → R) (c84 : Int → Int → (List PV) → (Bool → (List PV) → R) → R) (c85 : PV → (Int → R) → R) (c86 : (PV → R) → R) (c87 : (PV → R) → R) : Env := { P := Try.prog, nilOwn := fun d => false, fldOwn := fun d i => (d == 3 && i == 0), ownPar := ownPars, ownRet := false, mask := f57_msk, fuel := k, C := f57_C c18 c57 c84 c85 c86 c87 }
noncomputable def f57_code : Code := Try.f57.body.getD .skip
noncomputable def f57_cw1 : Code := subC f57_code [1, 1, 0, 1, 0, 0]
noncomputable def f57_hw1_0 (p1 : PV) (n28 : Int) (l29 : List PV) : St := ⟨[.dead, .ptr 1 [], .ptr 2 [], .ptr 3 [], .dead, .dead, .dead, .dead, .val 25 (PV.fld p1 3), .int .i64 (List.length (PV.els (PV.fld p1 3)) : Int), .int .i64 n28, .dead, .dead, .dead, .dead, .dead, .dead, .dead, .dead, .dead, .dead, .dead, .dead, .dead, .dead, .dead, .dead, .dead, .dead, .dead, .dead, .dead, .dead, .dead, .dead, .dead, .dead, .dead, .dead, .dead, .dead, .dead, .dead, .dead, .dead, .dead, .dead, .dead, .dead, .dead, .dead, .dead, .dead, .dead, .dead, .dead, .dead, .dead, .dead, .dead, .dead, .dead, .dead, .dead, .dead, .dead, .dead, .dead, .dead, .dead, .dead, .dead, .dead, .dead, .dead, .dead, .dead, .dead, .dead, .dead, .dead, .dead, .dead, .dead, .dead, .dead, .dead, .dead, .dead, .dead, .dead, .dead, .dead, .dead, .dead, .dead, .dead, .dead, .dead, .dead, .dead, .dead], [(1, .box 27 (.val 27 p1)), (2, .box 27 (.val 27 (PV.agg [(PV.int 0), (PV.agg [(PV.int 0), (PV.int 0), (PV.int 0), (PV.int 0)]), (PV.int 0), (PV.list [])]))), (3, .box 25 (.own 25 4000)), (4000, .row 27 l29)]⟩
noncomputable def f57_w1A (k : Nat) (c18 : PV → PV → (Bool → R) → R) (c57 : PV → (PV → R) → R) (c84 : Int → Int → (List PV) → (Bool → (List PV) → R) → R) (c85 : PV → (Int → R) → R) (c86 : (PV → R) → R) (c87 : (PV → R) → R) (retF : PV → R) (p1 : PV) (n28 : Int) (l29 : List PV) : R := loopM (f57_E k c18 c57 c84 c85 c86 c87) f57_cw1 (kont (f57_E k c18 c57 c84 c85 c86 c87) f57_code [1, 1, 0, 1, 0] (endK (f57_E k c18 c57 c84 c85 c86 c87) Try.f57 [] f57_un retF)) k (f57_hw1_0 p1 n28 l29)
noncomputable def f57_w1b0 (c18 : PV → PV → (Bool → R) → R) (c57 : PV → (PV → R) → R) (c84 : Int → Int → (List PV) → (Bool → (List PV) → R) → R) (c85 : PV → (Int → R) → R) (c86 : (PV → R) → R) (c87 : (PV → R) → R) (ret0 : PV → R) (next_w1_0 : Int → (List PV) → R) (p1 : PV) (n28 : Int) (l29 : List PV) : R :=
  bif (decide (n28 < (List.length (PV.els (PV.fld p1 3)) : Int))) then
    bif (true && decide ((0 : Int) ≤ n28) && decide (n28 < (List.length (PV.els (PV.fld p1 3)) : Int))) then
      c57 (List.getD (PV.els (PV.fld p1 3)) (n28).toNat PV.nil) fun p30 =>
      bif (true && roomy (List.length l29 + List.length [(PV.agg [(PV.int 0), (PV.agg [(PV.int 0), (PV.int 0), (PV.int 0), (PV.int 0)]), (PV.int 0), (PV.list [])])]) 72) then
        bif (true && true && decide ((0 : Int) ≤ (List.length l29 : Int)) && decide ((List.length l29 : Int) < (List.length (l29 ++ [(PV.agg [(PV.int 0), (PV.agg [(PV.int 0), (PV.int 0), (PV.int 0), (PV.int 0)]), (PV.int 0), (PV.list [])])]) : Int))) then
          let l31 : List PV := (List.set (l29 ++ [(PV.agg [(PV.int 0), (PV.agg [(PV.int 0), (PV.int 0), (PV.int 0), (PV.int 0)]), (PV.int 0), (PV.list [])])]) ((List.length l29 : Int)).toNat p30)
          next_w1_0 (IntKind.wrap .i64 (n28 + (1 : Int))) l31
        else none
      else none
    else none
  else bif (decide ((PV.num (PV.fld p1 0)) = (2 : Int))) then
    c85 (PV.fld p1 1) fun n32 =>
    bif (decide (n32 = (0 : Int))) then
      c86 fun p33 =>
      ret0 p33
    else ret0 (PV.agg [(PV.int (PV.num (PV.fld p1 0))), (PV.fld p1 1), (PV.int (PV.num (PV.fld p1 2))), (PV.list l29)])
  else bif (decide ((PV.num (PV.fld p1 0)) = (3 : Int))) then
    c84 0 0 l29 fun b34 l35 =>
    bif (b34 == false) then
      c84 1 0 l35 fun b36 l37 =>
      bif b36 then
        c86 fun p38 =>
        ret0 p38
      else c84 0 1 l37 fun b39 l40 =>
      bif b39 then
        bif (true && true && decide ((0 : Int) ≤ (1 : Int)) && decide ((1 : Int) < (List.length l40 : Int))) then
          ret0 (List.getD l40 ((1 : Int)).toNat PV.nil)
        else none
      else c84 1 1 l40 fun b41 l42 =>
      bif b41 then
        bif (true && true && decide ((0 : Int) ≤ (0 : Int)) && decide ((0 : Int) < (List.length l42 : Int))) then
          ret0 (List.getD l42 ((0 : Int)).toNat PV.nil)
        else none
      else ret0 (PV.agg [(PV.int (PV.num (PV.fld p1 0))), (PV.fld p1 1), (PV.int (PV.num (PV.fld p1 2))), (PV.list l42)])
    else c86 fun p43 =>
    ret0 p43
  else bif (decide ((PV.num (PV.fld p1 0)) = (4 : Int))) then
    c84 0 0 l29 fun b44 l45 =>
    bif b44 then
      bif (true && true && decide ((0 : Int) ≤ (1 : Int)) && decide ((1 : Int) < (List.length l45 : Int))) then
        ret0 (List.getD l45 ((1 : Int)).toNat PV.nil)
      else none
    else c84 1 0 l45 fun b46 l47 =>
    bif (b46 == false) then
      bif (true && true && decide ((0 : Int) ≤ (0 : Int)) && decide ((0 : Int) < (List.length l47 : Int))) then
        bif (true && true && decide ((0 : Int) ≤ (1 : Int)) && decide ((1 : Int) < (List.length l47 : Int))) then
          c18 (List.getD l47 ((0 : Int)).toNat PV.nil) (List.getD l47 ((1 : Int)).toNat PV.nil) fun b48 =>
          bif b48 then
            bif (true && true && decide ((0 : Int) ≤ (0 : Int)) && decide ((0 : Int) < (List.length l47 : Int))) then
              ret0 (List.getD l47 ((0 : Int)).toNat PV.nil)
            else none
          else ret0 (PV.agg [(PV.int (PV.num (PV.fld p1 0))), (PV.fld p1 1), (PV.int (PV.num (PV.fld p1 2))), (PV.list l47)])
        else none
      else none
    else bif (true && true && decide ((0 : Int) ≤ (0 : Int)) && decide ((0 : Int) < (List.length l47 : Int))) then
      ret0 (List.getD l47 ((0 : Int)).toNat PV.nil)
    else none
  else bif (decide ((PV.num (PV.fld p1 0)) = (5 : Int))) then
    c84 0 0 l29 fun b49 l50 =>
    bif (b49 == false) then
      c84 0 1 l50 fun b51 l52 =>
      bif b51 then
        c87 fun p53 =>
        ret0 p53
      else c84 0 5 l52 fun b54 l55 =>
      bif b54 then
        bif (true && true && decide ((0 : Int) ≤ (0 : Int)) && decide ((0 : Int) < (List.length l55 : Int))) then
          ret0 (List.getD l55 ((0 : Int)).toNat PV.nil)
        else none
      else ret0 (PV.agg [(PV.int (PV.num (PV.fld p1 0))), (PV.fld p1 1), (PV.int (PV.num (PV.fld p1 2))), (PV.list l55)])
    else c87 fun p56 =>
    ret0 p56
  else bif (decide ((PV.num (PV.fld p1 0)) = (6 : Int))) then
    bif (true && true && decide ((0 : Int) ≤ (0 : Int)) && decide ((0 : Int) < (List.length l29 : Int))) then
      ret0 (List.getD l29 ((0 : Int)).toNat PV.nil)
    else none
  else bif (decide ((PV.num (PV.fld p1 0)) = (7 : Int))) then
    bif (true && true && decide ((0 : Int) ≤ (0 : Int)) && decide ((0 : Int) < (List.length l29 : Int))) then
      ret0 (List.getD l29 ((0 : Int)).toNat PV.nil)
    else none
  else ret0 (PV.agg [(PV.int (PV.num (PV.fld p1 0))), (PV.fld p1 1), (PV.int (PV.num (PV.fld p1 2))), (PV.list l29)])

theorem f57_w1b0_mem (k : Nat) (c18 : PV → PV → (Bool → R) → R) (c57 : PV → (PV → R) → R) (c84 : Int → Int → (List PV) → (Bool → (List PV) → R) → R) (c85 : PV → (Int → R) → R) (c86 : (PV → R) → R) (c87 : (PV → R) → R) (retF : PV → R) (NX_w1 : St → R) (p1 : PV) (n28 : Int) (l29 : List PV) : exec (f57_E k c18 c57 c84 c85 c86 c87) f57_cw1 (purgeK (f57_E k c18 c57 c84 c85 c86 c87) f57_cw1 (loopK NX_w1 (kont (f57_E k c18 c57 c84 c85 c86 c87) f57_code [1, 1, 0, 1, 0] (endK (f57_E k c18 c57 c84 c85 c86 c87) Try.f57 [] f57_un retF)))) (f57_hw1_0 p1 n28 l29) = f57_w1b0 c18 c57 c84 c85 c86 c87 (fun y0 => retF y0) (fun n28 l29 => NX_w1 (f57_hw1_0 p1 n28 l29)) p1 n28 l29 := by kernel_rfl

noncomputable def f57_w1b0N (k : Nat) (c18 : PV → PV → (Bool → R) → R) (c57 : PV → (PV → R) → R) (c84 : Int → Int → (List PV) → (Bool → (List PV) → R) → R) (c85 : PV → (Int → R) → R) (c86 : (PV → R) → R) (c87 : (PV → R) → R) (ret0 : PV → R) (next_w1_0 : Int → (List PV) → R) (p1 : PV) (n28 : Int) (l29 : List PV) : R :=
  f57_w1b0 c18 c57 c84 c85 c86 c87 ret0 next_w1_0 p1 n28 l29
theorem f57_w1b0_eq (k : Nat) (c18 : PV → PV → (Bool → R) → R) (c57 : PV → (PV → R) → R) (c84 : Int → Int → (List PV) → (Bool → (List PV) → R) → R) (c85 : PV → (Int → R) → R) (c86 : (PV → R) → R) (c87 : (PV → R) → R) (retF : PV → R) (NX_w1 : St → R) (p1 : PV) (n28 : Int) (l29 : List PV) : exec (f57_E k c18 c57 c84 c85 c86 c87) f57_cw1 (purgeK (f57_E k c18 c57 c84 c85 c86 c87) f57_cw1 (loopK NX_w1 (kont (f57_E k c18 c57 c84 c85 c86 c87) f57_code [1, 1, 0, 1, 0] (endK (f57_E k c18 c57 c84 c85 c86 c87) Try.f57 [] f57_un retF)))) (f57_hw1_0 p1 n28 l29) = f57_w1b0N k c18 c57 c84 c85 c86 c87 (fun y0 => retF y0) (fun n28 l29 => NX_w1 (f57_hw1_0 p1 n28 l29)) p1 n28 l29 :=
  (f57_w1b0_mem k c18 c57 c84 c85 c86 c87 retF NX_w1 p1 n28 l29)

noncomputable def f57_w1B (k : Nat) (c18 : PV → PV → (Bool → R) → R) (c57 : PV → (PV → R) → R) (c84 : Int → Int → (List PV) → (Bool → (List PV) → R) → R) (c85 : PV → (Int → R) → R) (c86 : (PV → R) → R) (c87 : (PV → R) → R) (ret0 : PV → R) (p1 : PV) (nx : Int × (List PV) → R) : Int × (List PV) → R := (fun s => f57_w1b0N k c18 c57 c84 c85 c86 c87 ret0 (fun n28 l29 => nx (n28, l29)) p1 s.1 s.2)
noncomputable def f57_w1N (k : Nat) (c18 : PV → PV → (Bool → R) → R) (c57 : PV → (PV → R) → R) (c84 : Int → Int → (List PV) → (Bool → (List PV) → R) → R) (c85 : PV → (Int → R) → R) (c86 : (PV → R) → R) (c87 : (PV → R) → R) (ret0 : PV → R) (p1 : PV) (n28 : Int) (l29 : List PV) : R := loopR (f57_w1B k c18 c57 c84 c85 c86 c87 ret0 p1) k (n28, l29)
theorem f57_w1_eq (k : Nat) (c18 : PV → PV → (Bool → R) → R) (c57 : PV → (PV → R) → R) (c84 : Int → Int → (List PV) → (Bool → (List PV) → R) → R) (c85 : PV → (Int → R) → R) (c86 : (PV → R) → R) (c87 : (PV → R) → R) (retF : PV → R) (p1 : PV) (n28 : Int) (l29 : List PV) : f57_w1A k c18 c57 c84 c85 c86 c87 retF p1 n28 l29 = f57_w1N k c18 c57 c84 c85 c86 c87 (fun y0 => retF y0) p1 n28 l29 :=
  Eq.mp (by kernel_rfl) (loop_sim (E := (f57_E k c18 c57 c84 c85 c86 c87)) (c := f57_cw1) (K := (kont (f57_E k c18 c57 c84 c85 c86 c87) f57_code [1, 1, 0, 1, 0] (endK (f57_E k c18 c57 c84 c85 c86 c87) Try.f57 [] f57_un retF))) (S := Int × (List PV)) (fun s => f57_hw1_0 p1 s.1 s.2) (f57_w1B k c18 c57 c84 c85 c86 c87 (fun y0 => retF y0) p1) (fun NX s => by
    exact Eq.mp (by kernel_rfl) (f57_w1b0_eq k c18 c57 c84 c85 c86 c87 retF NX p1 s.1 s.2)) k (n28, l29))

noncomputable def f57_e (c18 : PV → PV → (Bool → R) → R) (c57 : PV → (PV → R) → R) (c84 : Int → Int → (List PV) → (Bool → (List PV) → R) → R) (c85 : PV → (Int → R) → R) (c86 : (PV → R) → R) (c87 : (PV → R) → R) (ret0 : PV → R) (w1 : Int → (List PV) → R) (p1 : PV) : R :=
  w1 0 []

theorem f57_e_mem (k : Nat) (c18 : PV → PV → (Bool → R) → R) (c57 : PV → (PV → R) → R) (c84 : Int → Int → (List PV) → (Bool → (List PV) → R) → R) (c85 : PV → (Int → R) → R) (c86 : (PV → R) → R) (c87 : (PV → R) → R) (retF : PV → R) (p1 : PV) : exec (f57_E k c18 c57 c84 c85 c86 c87) f57_code (endK (f57_E k c18 c57 c84 c85 c86 c87) Try.f57 [] f57_un retF) ⟨[.val 27 p1, .undef, .undef, .undef, .undef, .undef, .undef, .undef, .undef, .undef, .undef, .undef, .undef, .undef, .undef, .undef, .undef, .undef, .undef, .undef, .undef, .undef, .undef, .undef, .undef, .undef, .undef, .undef, .undef, .undef, .undef, .undef, .undef, .undef, .undef, .undef, .undef, .undef, .undef, .undef, .undef, .undef, .undef, .undef, .undef, .undef, .undef, .undef, .undef, .undef, .undef, .undef, .undef, .undef, .undef, .undef, .undef, .undef, .undef, .undef, .undef, .undef, .undef, .undef, .undef, .undef, .undef, .undef, .undef, .undef, .undef, .undef, .undef, .undef, .undef, .undef, .undef, .undef, .undef, .undef, .undef, .undef, .undef, .undef, .undef, .undef, .undef, .undef, .undef, .undef, .undef, .undef, .undef, .undef, .undef, .undef, .undef, .undef, .undef, .undef, .undef, .undef], []⟩ = f57_e c18 c57 c84 c85 c86 c87 (fun y0 => retF y0) (fun n28 l29 => f57_w1A k c18 c57 c84 c85 c86 c87 retF p1 n28 l29) p1 := by kernel_rfl

noncomputable def f57_N (k : Nat) (c18 : PV → PV → (Bool → R) → R) (c57 : PV → (PV → R) → R) (c84 : Int → Int → (List PV) → (Bool → (List PV) → R) → R) (c85 : PV → (Int → R) → R) (c86 : (PV → R) → R) (c87 : (PV → R) → R) (ret0 : PV → R) (p1 : PV) : R :=
  f57_e c18 c57 c84 c85 c86 c87 ret0 (fun n28 l29 => f57_w1N k c18 c57 c84 c85 c86 c87 ret0 p1 n28 l29) p1
theorem f57_eq (k : Nat) (c18 : PV → PV → (Bool → R) → R) (c57 : PV → (PV → R) → R) (c84 : Int → Int → (List PV) → (Bool → (List PV) → R) → R) (c85 : PV → (Int → R) → R) (c86 : (PV → R) → R) (c87 : (PV → R) → R) (retF : PV → R) (p1 : PV) : exec (f57_E k c18 c57 c84 c85 c86 c87) f57_code (endK (f57_E k c18 c57 c84 c85 c86 c87) Try.f57 [] f57_un retF) ⟨[.val 27 p1, .undef, .undef, .undef, .undef, .undef, .undef, .undef, .undef, .undef, .undef, .undef, .undef, .undef, .undef, .undef, .undef, .undef, .undef, .undef, .undef, .undef, .undef, .undef, .undef, .undef, .undef, .undef, .undef, .undef, .undef, .undef, .undef, .undef, .undef, .undef, .undef, .undef, .undef, .undef, .undef, .undef, .undef, .undef, .undef, .undef, .undef, .undef, .undef, .undef, .undef, .undef, .undef, .undef, .undef, .undef, .undef, .undef, .undef, .undef, .undef, .undef, .undef, .undef, .undef, .undef, .undef, .undef, .undef, .undef, .undef, .undef, .undef, .undef, .undef, .undef, .undef, .undef, .undef, .undef, .undef, .undef, .undef, .undef, .undef, .undef, .undef, .undef, .undef, .undef, .undef, .undef, .undef, .undef, .undef, .undef, .undef, .undef, .undef, .undef, .undef, .undef], []⟩ = f57_N k c18 c57 c84 c85 c86 c87 (fun y0 => retF y0) p1 :=
  (f57_e_mem k c18 c57 c84 c85 c86 c87 retF p1).trans (by rw [show (fun n28 l29 => f57_w1A k c18 c57 c84 c85 c86 c87 retF p1 n28 l29) = (fun n28 l29 => f57_w1N k c18 c57 c84 c85 c86 c87 (fun y0 => retF y0) p1 n28 l29) from funext fun n28 => funext fun l29 => f57_w1_eq k c18 c57 c84 c85 c86 c87 retF p1 n28 l29]; rfl)

noncomputable def G57 : Nat → PV → (PV → R) → R
  | 0, _, _ => none
  | k + 1, p1, ret0 => f57_N k (G18 k) (G57 k) (G84 k) (G85 k) (G86 k) (G87 k) ret0 p1
theorem S57 : ∀ k, Snd Try.prog 57 f57_I f57_O (fun x ret => G57 k x (fun y0 => ret y0))
  | 0 => snd_none
  | k + 1 => snd_step (E := f57_E k (G18 k) (G57 k) (G84 k) (G85 k) (G86 k) (G87 k)) rfl laidOut noNums (orc_ok (S18 k).o f18_D_ok (orc_ok (S57 k).o f57_D_ok (orc_ok (S84 k).o f84_D_ok (orc_ok (S85 k).o f85_D_ok (orc_ok (S86 k).o f86_D_ok (orc_ok (S87 k).o f87_D_ok orc0_ok)))))) (f := 57) (fn := Try.f57) (code := f57_code) Try.func57 (by kernel_rfl) (drawsOk_of laidOut (orc_ok (S18 k).o f18_D_ok (orc_ok (S57 k).o f57_D_ok (orc_ok (S84 k).o f84_D_ok (orc_ok (S85 k).o f85_D_ok (orc_ok (S86 k).o f86_D_ok (orc_ok (S87 k).o f87_D_ok orc0_ok)))))) mixed (by kernel_rfl)) f57_un f57_un_ok [] (fun _ => rfl)
      (fun x ret => f57_eq k (G18 k) (G57 k) (G84 k) (G85 k) (G86 k) (G87 k) ret x)

/- catchpole/deriv.By -/
noncomputable def f27_I : PV × Int → List SV × Obs := fun x => ([.val 27 x.1, .int .u8 x.2], [])
noncomputable def f27_D : List SV → Obs → Option (PV × Int)
  | [.val 27 p1, .int .u8 n2], [] => some (p1, n2)
  | _, _ => none
theorem f27_D_ok (args : List SV) (B : Obs) (x : PV × Int) (h : f27_D args B = some x) : f27_I x = (args, B) := by
  unfold f27_D at h
  split at h
  · injection h with h; subst h; rfl
  · cases h
noncomputable def f27_O : PV × Int → Out := (fun y => ([.val 27 y.1, .int .i64 y.2], []))
noncomputable def f27_un : Out → Option (PV × Int)
  | ([.val 27 y0, .int .i64 y1], []) => some (y0, y1)
  | _ => none
theorem f27_un_ok (o : Out) (y : PV × Int) (h : f27_un o = some y) : o = f27_O y := by
  unfold f27_un at h
  split at h
  · injection h with h; subst h; rfl
  · cases h
noncomputable def f27_msk : Nat → Option (List Nat) := fun key =>  none
noncomputable def f27_C (c28 : PV → (Bool → R) → R) (c57 : PV → (PV → R) → R) (c59 : PV → Int → (PV → R) → R) : Oracle := orc 28 f28_D f28_O (fun x ret => c28 x (fun y0 => ret y0)) <| orc 57 f57_D f57_O (fun x ret => c57 x (fun y0 => ret y0)) <| orc 59 f59_D f59_O (fun x ret => c59 x.1 x.2 (fun y0 => ret y0)) <| orc0
noncomputable def f27_E (k : Nat) (c28 : PV → (Bool → R) → R) (c57 : PV → (PV → R) → R) (c59 : PV → Int → (PV → R) → R) : Env := { P := Try.prog, nilOwn := fun d => false, fldOwn := fun d i => false, ownPar := ownPars, ownRet := false, mask := f27_msk, fuel := k, C := f27_C c28 c57 c59 }
noncomputable def f27_code : Code := Try.f27.body.getD .skip
noncomputable def f27_e (c28 : PV → (Bool → R) → R) (c57 : PV → (PV → R) → R) (c59 : PV → Int → (PV → R) → R) (ret0 : PV → Int → R) (p1 : PV) (n2 : Int) : R :=
  c28 p1 fun b3 =>
  bif (!b3) then
    ret0 (PV.agg [(PV.int 0), (PV.agg [(PV.int 0), (PV.int 0), (PV.int 0), (PV.int 0)]), (PV.int 0), (PV.list [])]) 1
  else c59 p1 n2 fun p4 =>
  c57 p4 fun p5 =>
  c28 p5 fun b6 =>
  bif (!b6) then
    ret0 (PV.agg [(PV.int 0), (PV.agg [(PV.int 0), (PV.int 0), (PV.int 0), (PV.int 0)]), (PV.int 0), (PV.list [])]) 4
  else ret0 p5 0

theorem f27_e_mem (k : Nat) (c28 : PV → (Bool → R) → R) (c57 : PV → (PV → R) → R) (c59 : PV → Int → (PV → R) → R) (retF : PV × Int → R) (p1 : PV) (n2 : Int) : exec (f27_E k c28 c57 c59) f27_code (endK (f27_E k c28 c57 c59) Try.f27 [] f27_un retF) ⟨[.val 27 p1, .int .u8 n2, .undef, .undef, .undef, .undef, .undef, .undef, .undef, .undef, .undef, .undef, .undef, .undef, .undef, .undef, .undef, .undef, .undef, .undef], []⟩ = f27_e c28 c57 c59 (fun y0 y1 => retF (y0, y1)) p1 n2 := by kernel_rfl

noncomputable def f27_N (k : Nat) (c28 : PV → (Bool → R) → R) (c57 : PV → (PV → R) → R) (c59 : PV → Int → (PV → R) → R) (ret0 : PV → Int → R) (p1 : PV) (n2 : Int) : R :=
  f27_e c28 c57 c59 ret0 p1 n2
theorem f27_eq (k : Nat) (c28 : PV → (Bool → R) → R) (c57 : PV → (PV → R) → R) (c59 : PV → Int → (PV → R) → R) (retF : PV × Int → R) (p1 : PV) (n2 : Int) : exec (f27_E k c28 c57 c59) f27_code (endK (f27_E k c28 c57 c59) Try.f27 [] f27_un retF) ⟨[.val 27 p1, .int .u8 n2, .undef, .undef, .undef, .undef, .undef, .undef, .undef, .undef, .undef, .undef, .undef, .undef, .undef, .undef, .undef, .undef, .undef, .undef], []⟩ = f27_N k c28 c57 c59 (fun y0 y1 => retF (y0, y1)) p1 n2 :=
  (f27_e_mem k c28 c57 c59 retF p1 n2)

noncomputable def G27 : Nat → PV → Int → (PV → Int → R) → R
  | 0, _, _, _ => none
  | k + 1, p1, n2, ret0 => f27_N k (G28 k) (G57 k) (G59 k) ret0 p1 n2
theorem S27 : ∀ k, Snd Try.prog 27 f27_I f27_O (fun x ret => G27 k x.1 x.2 (fun y0 y1 => ret (y0, y1)))
  | 0 => snd_none
  | k + 1 => snd_step (E := f27_E k (G28 k) (G57 k) (G59 k)) rfl laidOut noNums (orc_ok (S28 k).o f28_D_ok (orc_ok (S57 k).o f57_D_ok (orc_ok (S59 k).o f59_D_ok orc0_ok))) (f := 27) (fn := Try.f27) (code := f27_code) Try.func27 (by kernel_rfl) (drawsOk_of laidOut (orc_ok (S28 k).o f28_D_ok (orc_ok (S57 k).o f57_D_ok (orc_ok (S59 k).o f59_D_ok orc0_ok))) mixed (by kernel_rfl)) f27_un f27_un_ok [] (fun _ => rfl)
      (fun x ret => f27_eq k (G28 k) (G57 k) (G59 k) ret x.1 x.2)

/- catchpole/catchpolelaw16.awake -/
noncomputable def f14_I : Unit → List SV × Obs := fun x => ([], [])
noncomputable def f14_D : List SV → Obs → Option (Unit)
  | [], [] => some ()
  | _, _ => none
theorem f14_D_ok (args : List SV) (B : Obs) (x : Unit) (h : f14_D args B = some x) : f14_I x = (args, B) := by
  unfold f14_D at h
  split at h
  · injection h with h; subst h; rfl
  · cases h
noncomputable def f14_O : Bool → Out := (fun y => ([.bool y], []))
noncomputable def f14_un : Out → Option (Bool)
  | ([.bool y0], []) => some y0
  | _ => none
theorem f14_un_ok (o : Out) (y : Bool) (h : f14_un o = some y) : o = f14_O y := by
  unfold f14_un at h
  split at h
  · injection h with h; subst h; rfl
  · cases h
noncomputable def f14_msk : Nat → Option (List Nat) := fun key =>  none
noncomputable def f14_C (c18 : PV → PV → (Bool → R) → R) (c19 : PV → PV → (PV → R) → R) (c20 : PV → (PV → R) → R) (c27 : PV → Int → (PV → Int → R) → R) : Oracle := orc 18 f18_D f18_O (fun x ret => c18 x.1 x.2 (fun y0 => ret y0)) <| orc 19 f19_D f19_O (fun x ret => c19 x.1 x.2 (fun y0 => ret y0)) <| orc 20 f20_D f20_O (fun x ret => c20 x (fun y0 => ret y0)) <| orc 27 f27_D f27_O (fun x ret => c27 x.1 x.2 (fun y0 y1 => ret (y0, y1))) <| orc0
noncomputable def f14_E (k : Nat) (c18 : PV → PV → (Bool → R) → R) (c19 : PV → PV → (PV → R) → R) (c20 : PV → (PV → R) → R) (c27 : PV → Int → (PV → Int → R) → R) : Env := { P := Try.prog, nilOwn := fun d => false, fldOwn := fun d i => false, ownPar := ownPars, ownRet := false, mask := f14_msk, fuel := k, C := f14_C c18 c19 c20 c27 }
noncomputable def f14_code : Code := Try.f14.body.getD .skip
noncomputable def f14_e (c18 : PV → PV → (Bool → R) → R) (c19 : PV → PV → (PV → R) → R) (c20 : PV → (PV → R) → R) (c27 : PV → Int → (PV → Int → R) → R) (ret0 : Bool → R) : R :=
  c20 (PV.list [(PV.int 97)]) fun p1 =>
  c20 (PV.list [(PV.int 98)]) fun p2 =>
  c19 p1 p2 fun p3 =>
  c27 p3 97 fun p4 n5 =>
  bif ((decide (n5 = (0 : Int))) == true) then
    c20 (PV.list [(PV.int 98)]) fun p6 =>
    c18 p4 p6 fun b7 =>
    ret0 b7
  else ret0 false

theorem f14_e_mem (k : Nat) (c18 : PV → PV → (Bool → R) → R) (c19 : PV → PV → (PV → R) → R) (c20 : PV → (PV → R) → R) (c27 : PV → Int → (PV → Int → R) → R) (retF : Bool → R) : exec (f14_E k c18 c19 c20 c27) f14_code (endK (f14_E k c18 c19 c20 c27) Try.f14 [] f14_un retF) ⟨[.undef, .undef, .undef, .undef, .undef, .undef, .undef, .undef, .undef, .undef, .undef, .undef, .undef, .undef, .undef, .undef, .undef, .undef, .undef, .undef], []⟩ = f14_e c18 c19 c20 c27 (fun y0 => retF y0) := by kernel_rfl

noncomputable def f14_N (k : Nat) (c18 : PV → PV → (Bool → R) → R) (c19 : PV → PV → (PV → R) → R) (c20 : PV → (PV → R) → R) (c27 : PV → Int → (PV → Int → R) → R) (ret0 : Bool → R) : R :=
  f14_e c18 c19 c20 c27 ret0
theorem f14_eq (k : Nat) (c18 : PV → PV → (Bool → R) → R) (c19 : PV → PV → (PV → R) → R) (c20 : PV → (PV → R) → R) (c27 : PV → Int → (PV → Int → R) → R) (retF : Bool → R) : exec (f14_E k c18 c19 c20 c27) f14_code (endK (f14_E k c18 c19 c20 c27) Try.f14 [] f14_un retF) ⟨[.undef, .undef, .undef, .undef, .undef, .undef, .undef, .undef, .undef, .undef, .undef, .undef, .undef, .undef, .undef, .undef, .undef, .undef, .undef, .undef], []⟩ = f14_N k c18 c19 c20 c27 (fun y0 => retF y0) :=
  (f14_e_mem k c18 c19 c20 c27 retF)

noncomputable def G14 : Nat → (Bool → R) → R
  | 0, _ => none
  | k + 1, ret0 => f14_N k (G18 k) (G19 k) (G20 k) (G27 k) ret0 
theorem S14 : ∀ k, Snd Try.prog 14 f14_I f14_O (fun x ret => G14 k (fun y0 => ret y0))
  | 0 => snd_none
  | k + 1 => snd_step (E := f14_E k (G18 k) (G19 k) (G20 k) (G27 k)) rfl laidOut noNums (orc_ok (S18 k).o f18_D_ok (orc_ok (S19 k).o f19_D_ok (orc_ok (S20 k).o f20_D_ok (orc_ok (S27 k).o f27_D_ok orc0_ok)))) (f := 14) (fn := Try.f14) (code := f14_code) Try.func14 (by kernel_rfl) (drawsOk_of laidOut (orc_ok (S18 k).o f18_D_ok (orc_ok (S19 k).o f19_D_ok (orc_ok (S20 k).o f20_D_ok (orc_ok (S27 k).o f27_D_ok orc0_ok)))) mixed (by kernel_rfl)) f14_un f14_un_ok [] (fun _ => rfl)
      (fun x ret => f14_eq k (G18 k) (G19 k) (G20 k) (G27 k) ret)

/- catchpole/catchpolelaw16.big -/
noncomputable def f15_I : PV × Int → List SV × Obs := fun x => ([.val 27 x.1, .int .i64 x.2], [])
noncomputable def f15_D : List SV → Obs → Option (PV × Int)
  | [.val 27 p1, .int .i64 n2], [] => some (p1, n2)
  | _, _ => none
theorem f15_D_ok (args : List SV) (B : Obs) (x : PV × Int) (h : f15_D args B = some x) : f15_I x = (args, B) := by
  unfold f15_D at h
  split at h
  · injection h with h; subst h; rfl
  · cases h
noncomputable def f15_O : Bool → Out := (fun y => ([.bool y], []))
noncomputable def f15_un : Out → Option (Bool)
  | ([.bool y0], []) => some y0
  | _ => none
theorem f15_un_ok (o : Out) (y : Bool) (h : f15_un o = some y) : o = f15_O y := by
  unfold f15_un at h
  split at h
  · injection h with h; subst h; rfl
  · cases h
noncomputable def f15_msk : Nat → Option (List Nat) := fun key => bif key == 12 then some [1, 2, 5] else none
noncomputable def f15_C (c15 : PV → Int → (Bool → R) → R) : Oracle := orc 15 f15_D f15_O (fun x ret => c15 x.1 x.2 (fun y0 => ret y0)) <| orc0
noncomputable def f15_E (k : Nat) (c15 : PV → Int → (Bool → R) → R) : Env := { P := Try.prog, nilOwn := fun d => false, fldOwn := fun d i => false, ownPar := ownPars, ownRet := false, mask := f15_msk, fuel := k, C := f15_C c15 }
noncomputable def f15_code : Code := Try.f15.body.getD .skip
noncomputable def f15_cw1 : Code := subC f15_code [1, 1, 0, 1, 0, 0]
noncomputable def f15_hw1_0 (p1 : PV) (n2 : Int) (n4 : Int) : St := ⟨[.dead, .int .i64 n2, .ptr 2 [], .dead, .dead, .int .i64 n4, .dead, .dead, .dead, .dead, .dead, .dead, .dead, .dead, .dead, .dead, .dead, .dead, .dead, .dead, .dead, .dead, .dead, .dead, .dead, .dead, .dead, .dead, .dead], [(2, .box 27 (.val 27 p1))]⟩
noncomputable def f15_w1A (k : Nat) (c15 : PV → Int → (Bool → R) → R) (retF : Bool → R) (p1 : PV) (n2 : Int) (n4 : Int) : R := loopM (f15_E k c15) f15_cw1 (kont (f15_E k c15) f15_code [1, 1, 0, 1, 0] (endK (f15_E k c15) Try.f15 [] f15_un retF)) k (f15_hw1_0 p1 n2 n4)
noncomputable def f15_w1b0 (c15 : PV → Int → (Bool → R) → R) (ret0 : Bool → R) (next_w1_0 : Int → R) (p1 : PV) (n2 : Int) (n4 : Int) : R :=
  bif (decide (n4 < (List.length (PV.els (PV.fld p1 3)) : Int))) then
    bif (true && decide ((0 : Int) ≤ n4) && decide (n4 < (List.length (PV.els (PV.fld p1 3)) : Int))) then
      c15 (List.getD (PV.els (PV.fld p1 3)) (n4).toNat PV.nil) (IntKind.wrap .i64 (n2 - (1 : Int))) fun b5 =>
      bif b5 then
        ret0 true
      else next_w1_0 (IntKind.wrap .i64 (n4 + (1 : Int)))
    else none
  else ret0 false

theorem f15_w1b0_mem (k : Nat) (c15 : PV → Int → (Bool → R) → R) (retF : Bool → R) (NX_w1 : St → R) (p1 : PV) (n2 : Int) (n4 : Int) : exec (f15_E k c15) f15_cw1 (purgeK (f15_E k c15) f15_cw1 (loopK NX_w1 (kont (f15_E k c15) f15_code [1, 1, 0, 1, 0] (endK (f15_E k c15) Try.f15 [] f15_un retF)))) (f15_hw1_0 p1 n2 n4) = f15_w1b0 c15 (fun y0 => retF y0) (fun n4 => NX_w1 (f15_hw1_0 p1 n2 n4)) p1 n2 n4 := by kernel_rfl

noncomputable def f15_w1b0N (k : Nat) (c15 : PV → Int → (Bool → R) → R) (ret0 : Bool → R) (next_w1_0 : Int → R) (p1 : PV) (n2 : Int) (n4 : Int) : R :=
  f15_w1b0 c15 ret0 next_w1_0 p1 n2 n4
theorem f15_w1b0_eq (k : Nat) (c15 : PV → Int → (Bool → R) → R) (retF : Bool → R) (NX_w1 : St → R) (p1 : PV) (n2 : Int) (n4 : Int) : exec (f15_E k c15) f15_cw1 (purgeK (f15_E k c15) f15_cw1 (loopK NX_w1 (kont (f15_E k c15) f15_code [1, 1, 0, 1, 0] (endK (f15_E k c15) Try.f15 [] f15_un retF)))) (f15_hw1_0 p1 n2 n4) = f15_w1b0N k c15 (fun y0 => retF y0) (fun n4 => NX_w1 (f15_hw1_0 p1 n2 n4)) p1 n2 n4 :=
  (f15_w1b0_mem k c15 retF NX_w1 p1 n2 n4)

noncomputable def f15_w1B (k : Nat) (c15 : PV → Int → (Bool → R) → R) (ret0 : Bool → R) (p1 : PV) (n2 : Int) (nx : Int → R) : Int → R := (fun s => f15_w1b0N k c15 ret0 (fun n4 => nx n4) p1 n2 s)
noncomputable def f15_w1N (k : Nat) (c15 : PV → Int → (Bool → R) → R) (ret0 : Bool → R) (p1 : PV) (n2 : Int) (n4 : Int) : R := loopR (f15_w1B k c15 ret0 p1 n2) k n4
theorem f15_w1_eq (k : Nat) (c15 : PV → Int → (Bool → R) → R) (retF : Bool → R) (p1 : PV) (n2 : Int) (n4 : Int) : f15_w1A k c15 retF p1 n2 n4 = f15_w1N k c15 (fun y0 => retF y0) p1 n2 n4 :=
  Eq.mp (by kernel_rfl) (loop_sim (E := (f15_E k c15)) (c := f15_cw1) (K := (kont (f15_E k c15) f15_code [1, 1, 0, 1, 0] (endK (f15_E k c15) Try.f15 [] f15_un retF))) (S := Int) (fun s => f15_hw1_0 p1 n2 s) (f15_w1B k c15 (fun y0 => retF y0) p1 n2) (fun NX s => by
    exact Eq.mp (by kernel_rfl) (f15_w1b0_eq k c15 retF NX p1 n2 s)) k n4)

noncomputable def f15_e (c15 : PV → Int → (Bool → R) → R) (ret0 : Bool → R) (w1 : Int → R) (p1 : PV) (n2 : Int) : R :=
  bif ((decide (n2 < (1 : Int))) == false) then
    bif (decide ((3 : Int) < (List.length (PV.els (PV.fld p1 3)) : Int))) then
      ret0 true
    else w1 0
  else ret0 true

theorem f15_e_mem (k : Nat) (c15 : PV → Int → (Bool → R) → R) (retF : Bool → R) (p1 : PV) (n2 : Int) : exec (f15_E k c15) f15_code (endK (f15_E k c15) Try.f15 [] f15_un retF) ⟨[.val 27 p1, .int .i64 n2, .undef, .undef, .undef, .undef, .undef, .undef, .undef, .undef, .undef, .undef, .undef, .undef, .undef, .undef, .undef, .undef, .undef, .undef, .undef, .undef, .undef, .undef, .undef, .undef, .undef, .undef, .undef], []⟩ = f15_e c15 (fun y0 => retF y0) (fun n4 => f15_w1A k c15 retF p1 n2 n4) p1 n2 := by kernel_rfl

noncomputable def f15_N (k : Nat) (c15 : PV → Int → (Bool → R) → R) (ret0 : Bool → R) (p1 : PV) (n2 : Int) : R :=
  f15_e c15 ret0 (fun n4 => f15_w1N k c15 ret0 p1 n2 n4) p1 n2
theorem f15_eq (k : Nat) (c15 : PV → Int → (Bool → R) → R) (retF : Bool → R) (p1 : PV) (n2 : Int) : exec (f15_E k c15) f15_code (endK (f15_E k c15) Try.f15 [] f15_un retF) ⟨[.val 27 p1, .int .i64 n2, .undef, .undef, .undef, .undef, .undef, .undef, .undef, .undef, .undef, .undef, .undef, .undef, .undef, .undef, .undef, .undef, .undef, .undef, .undef, .undef, .undef, .undef, .undef, .undef, .undef, .undef, .undef], []⟩ = f15_N k c15 (fun y0 => retF y0) p1 n2 :=
  (f15_e_mem k c15 retF p1 n2).trans (by rw [show (fun n4 => f15_w1A k c15 retF p1 n2 n4) = (fun n4 => f15_w1N k c15 (fun y0 => retF y0) p1 n2 n4) from funext fun n4 => f15_w1_eq k c15 retF p1 n2 n4]; rfl)

noncomputable def G15 : Nat → PV → Int → (Bool → R) → R
  | 0, _, _, _ => none
  | k + 1, p1, n2, ret0 => f15_N k (G15 k) ret0 p1 n2
theorem S15 : ∀ k, Snd Try.prog 15 f15_I f15_O (fun x ret => G15 k x.1 x.2 (fun y0 => ret y0))
  | 0 => snd_none
  | k + 1 => snd_step (E := f15_E k (G15 k)) rfl laidOut noNums (orc_ok (S15 k).o f15_D_ok orc0_ok) (f := 15) (fn := Try.f15) (code := f15_code) Try.func15 (by kernel_rfl) (drawsOk_of laidOut (orc_ok (S15 k).o f15_D_ok orc0_ok) mixed (by kernel_rfl)) f15_un f15_un_ok [] (fun _ => rfl)
      (fun x ret => f15_eq k (G15 k) ret x.1 x.2)

/- catchpole/deriv.Tidy -/
noncomputable def f26_I : PV → List SV × Obs := fun x => ([.val 27 x], [])
noncomputable def f26_D : List SV → Obs → Option (PV)
  | [.val 27 p1], [] => some p1
  | _, _ => none
theorem f26_D_ok (args : List SV) (B : Obs) (x : PV) (h : f26_D args B = some x) : f26_I x = (args, B) := by
  unfold f26_D at h
  split at h
  · injection h with h; subst h; rfl
  · cases h
noncomputable def f26_O : PV → Out := (fun y => ([.val 27 y], []))
noncomputable def f26_un : Out → Option (PV)
  | ([.val 27 y0], []) => some y0
  | _ => none
theorem f26_un_ok (o : Out) (y : PV) (h : f26_un o = some y) : o = f26_O y := by
  unfold f26_un at h
  split at h
  · injection h with h; subst h; rfl
  · cases h
noncomputable def f26_msk : Nat → Option (List Nat) := fun key =>  none
noncomputable def f26_C (c28 : PV → (Bool → R) → R) (c57 : PV → (PV → R) → R) : Oracle := orc 28 f28_D f28_O (fun x ret => c28 x (fun y0 => ret y0)) <| orc 57 f57_D f57_O (fun x ret => c57 x (fun y0 => ret y0)) <| orc0
noncomputable def f26_E (k : Nat) (c28 : PV → (Bool → R) → R) (c57 : PV → (PV → R) → R) : Env := { P := Try.prog, nilOwn := fun d => false, fldOwn := fun d i => false, ownPar := ownPars, ownRet := false, mask := f26_msk, fuel := k, C := f26_C c28 c57 }
noncomputable def f26_code : Code := Try.f26.body.getD .skip
noncomputable def f26_e (c28 : PV → (Bool → R) → R) (c57 : PV → (PV → R) → R) (ret0 : PV → R) (p1 : PV) : R :=
  c28 p1 fun b2 =>
  bif (!b2) then
    ret0 p1
  else c57 p1 fun p3 =>
  ret0 p3

theorem f26_e_mem (k : Nat) (c28 : PV → (Bool → R) → R) (c57 : PV → (PV → R) → R) (retF : PV → R) (p1 : PV) : exec (f26_E k c28 c57) f26_code (endK (f26_E k c28 c57) Try.f26 [] f26_un retF) ⟨[.val 27 p1, .undef, .undef, .undef, .undef, .undef, .undef, .undef, .undef], []⟩ = f26_e c28 c57 (fun y0 => retF y0) p1 := by kernel_rfl

noncomputable def f26_N (k : Nat) (c28 : PV → (Bool → R) → R) (c57 : PV → (PV → R) → R) (ret0 : PV → R) (p1 : PV) : R :=
  f26_e c28 c57 ret0 p1
theorem f26_eq (k : Nat) (c28 : PV → (Bool → R) → R) (c57 : PV → (PV → R) → R) (retF : PV → R) (p1 : PV) : exec (f26_E k c28 c57) f26_code (endK (f26_E k c28 c57) Try.f26 [] f26_un retF) ⟨[.val 27 p1, .undef, .undef, .undef, .undef, .undef, .undef, .undef, .undef], []⟩ = f26_N k c28 c57 (fun y0 => retF y0) p1 :=
  (f26_e_mem k c28 c57 retF p1)

noncomputable def G26 : Nat → PV → (PV → R) → R
  | 0, _, _ => none
  | k + 1, p1, ret0 => f26_N k (G28 k) (G57 k) ret0 p1
theorem S26 : ∀ k, Snd Try.prog 26 f26_I f26_O (fun x ret => G26 k x (fun y0 => ret y0))
  | 0 => snd_none
  | k + 1 => snd_step (E := f26_E k (G28 k) (G57 k)) rfl laidOut noNums (orc_ok (S28 k).o f28_D_ok (orc_ok (S57 k).o f57_D_ok orc0_ok)) (f := 26) (fn := Try.f26) (code := f26_code) Try.func26 (by kernel_rfl) (drawsOk_of laidOut (orc_ok (S28 k).o f28_D_ok (orc_ok (S57 k).o f57_D_ok orc0_ok)) mixed (by kernel_rfl)) f26_un f26_un_ok [] (fun _ => rfl)
      (fun x ret => f26_eq k (G28 k) (G57 k) ret x)

/- slices.Index[[]int,int] -/
noncomputable def f92_I : PV × Int → List SV × Obs := fun x => ([.val 44 x.1, .int .i64 x.2], [])
noncomputable def f92_D : List SV → Obs → Option (PV × Int)
  | [.val 44 p1, .int .i64 n2], [] => some (p1, n2)
  | _, _ => none
theorem f92_D_ok (args : List SV) (B : Obs) (x : PV × Int) (h : f92_D args B = some x) : f92_I x = (args, B) := by
  unfold f92_D at h
  split at h
  · injection h with h; subst h; rfl
  · cases h
noncomputable def f92_O : Int → Out := (fun y => ([.int .i64 y], []))
noncomputable def f92_un : Out → Option (Int)
  | ([.int .i64 y0], []) => some y0
  | _ => none
theorem f92_un_ok (o : Out) (y : Int) (h : f92_un o = some y) : o = f92_O y := by
  unfold f92_un at h
  split at h
  · injection h with h; subst h; rfl
  · cases h
noncomputable def f92_msk : Nat → Option (List Nat) := fun key => bif key == 6 then some [0, 1, 7, 8] else none
noncomputable def f92_C : Oracle := orc0
noncomputable def f92_E (k : Nat) : Env := { P := Try.prog, nilOwn := fun d => false, fldOwn := fun d i => false, ownPar := ownPars, ownRet := false, mask := f92_msk, fuel := k, C := f92_C }
noncomputable def f92_code : Code := Try.f92.body.getD .skip
noncomputable def f92_cw1 : Code := subC f92_code [1, 0, 1, 0, 0]
noncomputable def f92_hw1_0 (p1 : PV) (n2 : Int) (n3 : Int) : St := ⟨[.val 44 p1, .int .i64 n2, .dead, .dead, .dead, .dead, .dead, .int .i64 (List.length (PV.els p1) : Int), .int .i64 n3, .dead, .dead, .dead, .dead, .dead, .dead, .dead, .dead, .dead, .dead], []⟩
noncomputable def f92_w1A (k : Nat) (retF : Int → R) (p1 : PV) (n2 : Int) (n3 : Int) : R := loopM (f92_E k) f92_cw1 (kont (f92_E k) f92_code [1, 0, 1, 0] (endK (f92_E k) Try.f92 [] f92_un retF)) k (f92_hw1_0 p1 n2 n3)
noncomputable def f92_w1b0 (ret0 : Int → R) (next_w1_0 : Int → R) (p1 : PV) (n2 : Int) (n3 : Int) : R :=
  bif (decide (n3 < (List.length (PV.els p1) : Int))) then
    bif (true && decide ((0 : Int) ≤ n3) && decide (n3 < (List.length (PV.els p1) : Int))) then
      bif (decide (n2 = (PV.num (List.getD (PV.els p1) (n3).toNat PV.nil)))) then
        ret0 n3
      else next_w1_0 (IntKind.wrap .i64 (n3 + (1 : Int)))
    else none
  else ret0 (-1)

theorem f92_w1b0_mem (k : Nat) (retF : Int → R) (NX_w1 : St → R) (p1 : PV) (n2 : Int) (n3 : Int) : exec (f92_E k) f92_cw1 (purgeK (f92_E k) f92_cw1 (loopK NX_w1 (kont (f92_E k) f92_code [1, 0, 1, 0] (endK (f92_E k) Try.f92 [] f92_un retF)))) (f92_hw1_0 p1 n2 n3) = f92_w1b0 (fun y0 => retF y0) (fun n3 => NX_w1 (f92_hw1_0 p1 n2 n3)) p1 n2 n3 := by kernel_rfl

noncomputable def f92_w1b0N (k : Nat) (ret0 : Int → R) (next_w1_0 : Int → R) (p1 : PV) (n2 : Int) (n3 : Int) : R :=
  f92_w1b0 ret0 next_w1_0 p1 n2 n3
theorem f92_w1b0_eq (k : Nat) (retF : Int → R) (NX_w1 : St → R) (p1 : PV) (n2 : Int) (n3 : Int) : exec (f92_E k) f92_cw1 (purgeK (f92_E k) f92_cw1 (loopK NX_w1 (kont (f92_E k) f92_code [1, 0, 1, 0] (endK (f92_E k) Try.f92 [] f92_un retF)))) (f92_hw1_0 p1 n2 n3) = f92_w1b0N k (fun y0 => retF y0) (fun n3 => NX_w1 (f92_hw1_0 p1 n2 n3)) p1 n2 n3 :=
  (f92_w1b0_mem k retF NX_w1 p1 n2 n3)

noncomputable def f92_w1B (k : Nat) (ret0 : Int → R) (p1 : PV) (n2 : Int) (nx : Int → R) : Int → R := (fun s => f92_w1b0N k ret0 (fun n3 => nx n3) p1 n2 s)
noncomputable def f92_w1N (k : Nat) (ret0 : Int → R) (p1 : PV) (n2 : Int) (n3 : Int) : R := loopR (f92_w1B k ret0 p1 n2) k n3
theorem f92_w1_eq (k : Nat) (retF : Int → R) (p1 : PV) (n2 : Int) (n3 : Int) : f92_w1A k retF p1 n2 n3 = f92_w1N k (fun y0 => retF y0) p1 n2 n3 :=
  Eq.mp (by kernel_rfl) (loop_sim (E := (f92_E k)) (c := f92_cw1) (K := (kont (f92_E k) f92_code [1, 0, 1, 0] (endK (f92_E k) Try.f92 [] f92_un retF))) (S := Int) (fun s => f92_hw1_0 p1 n2 s) (f92_w1B k (fun y0 => retF y0) p1 n2) (fun NX s => by
    exact Eq.mp (by kernel_rfl) (f92_w1b0_eq k retF NX p1 n2 s)) k n3)

noncomputable def f92_e (ret0 : Int → R) (w1 : Int → R) (p1 : PV) (n2 : Int) : R :=
  w1 0

theorem f92_e_mem (k : Nat) (retF : Int → R) (p1 : PV) (n2 : Int) : exec (f92_E k) f92_code (endK (f92_E k) Try.f92 [] f92_un retF) ⟨[.val 44 p1, .int .i64 n2, .undef, .undef, .undef, .undef, .undef, .undef, .undef, .undef, .undef, .undef, .undef, .undef, .undef, .undef, .undef, .undef, .undef], []⟩ = f92_e (fun y0 => retF y0) (fun n3 => f92_w1A k retF p1 n2 n3) p1 n2 := by kernel_rfl

noncomputable def f92_N (k : Nat) (ret0 : Int → R) (p1 : PV) (n2 : Int) : R :=
  f92_e ret0 (fun n3 => f92_w1N k ret0 p1 n2 n3) p1 n2
theorem f92_eq (k : Nat) (retF : Int → R) (p1 : PV) (n2 : Int) : exec (f92_E k) f92_code (endK (f92_E k) Try.f92 [] f92_un retF) ⟨[.val 44 p1, .int .i64 n2, .undef, .undef, .undef, .undef, .undef, .undef, .undef, .undef, .undef, .undef, .undef, .undef, .undef, .undef, .undef, .undef, .undef], []⟩ = f92_N k (fun y0 => retF y0) p1 n2 :=
  (f92_e_mem k retF p1 n2).trans (by rw [show (fun n3 => f92_w1A k retF p1 n2 n3) = (fun n3 => f92_w1N k (fun y0 => retF y0) p1 n2 n3) from funext fun n3 => f92_w1_eq k retF p1 n2 n3]; rfl)

noncomputable def G92 : Nat → PV → Int → (Int → R) → R
  | 0, _, _, _ => none
  | k + 1, p1, n2, ret0 => f92_N k  ret0 p1 n2
theorem S92 : ∀ k, Snd Try.prog 92 f92_I f92_O (fun x ret => G92 k x.1 x.2 (fun y0 => ret y0))
  | 0 => snd_none
  | k + 1 => snd_step (E := f92_E k ) rfl laidOut noNums orc0_ok (f := 92) (fn := Try.f92) (code := f92_code) Try.func92 (by kernel_rfl) (drawsOk_of laidOut orc0_ok mixed (by kernel_rfl)) f92_un f92_un_ok [] (fun _ => rfl)
      (fun x ret => f92_eq k  ret x.1 x.2)

/- slices.Contains[[]int,int] -/
noncomputable def f63_I : PV × Int → List SV × Obs := fun x => ([.val 44 x.1, .int .i64 x.2], [])
noncomputable def f63_D : List SV → Obs → Option (PV × Int)
  | [.val 44 p1, .int .i64 n2], [] => some (p1, n2)
  | _, _ => none
theorem f63_D_ok (args : List SV) (B : Obs) (x : PV × Int) (h : f63_D args B = some x) : f63_I x = (args, B) := by
  unfold f63_D at h
  split at h
  · injection h with h; subst h; rfl
  · cases h
noncomputable def f63_O : Bool → Out := (fun y => ([.bool y], []))
noncomputable def f63_un : Out → Option (Bool)
  | ([.bool y0], []) => some y0
  | _ => none
theorem f63_un_ok (o : Out) (y : Bool) (h : f63_un o = some y) : o = f63_O y := by
  unfold f63_un at h
  split at h
  · injection h with h; subst h; rfl
  · cases h
noncomputable def f63_msk : Nat → Option (List Nat) := fun key =>  none
noncomputable def f63_C (c92 : PV → Int → (Int → R) → R) : Oracle := orc 92 f92_D f92_O (fun x ret => c92 x.1 x.2 (fun y0 => ret y0)) <| orc0
noncomputable def f63_E (k : Nat) (c92 : PV → Int → (Int → R) → R) : Env := { P := Try.prog, nilOwn := fun d => false, fldOwn := fun d i => false, ownPar := ownPars, ownRet := false, mask := f63_msk, fuel := k, C := f63_C c92 }
noncomputable def f63_code : Code := Try.f63.body.getD .skip
noncomputable def f63_e (c92 : PV → Int → (Int → R) → R) (ret0 : Bool → R) (p1 : PV) (n2 : Int) : R :=
  c92 p1 n2 fun n3 =>
  ret0 (decide ((0 : Int) ≤ n3))

theorem f63_e_mem (k : Nat) (c92 : PV → Int → (Int → R) → R) (retF : Bool → R) (p1 : PV) (n2 : Int) : exec (f63_E k c92) f63_code (endK (f63_E k c92) Try.f63 [] f63_un retF) ⟨[.val 44 p1, .int .i64 n2, .undef, .undef, .undef, .undef, .undef, .undef, .undef], []⟩ = f63_e c92 (fun y0 => retF y0) p1 n2 := by kernel_rfl

noncomputable def f63_N (k : Nat) (c92 : PV → Int → (Int → R) → R) (ret0 : Bool → R) (p1 : PV) (n2 : Int) : R :=
  f63_e c92 ret0 p1 n2
theorem f63_eq (k : Nat) (c92 : PV → Int → (Int → R) → R) (retF : Bool → R) (p1 : PV) (n2 : Int) : exec (f63_E k c92) f63_code (endK (f63_E k c92) Try.f63 [] f63_un retF) ⟨[.val 44 p1, .int .i64 n2, .undef, .undef, .undef, .undef, .undef, .undef, .undef], []⟩ = f63_N k c92 (fun y0 => retF y0) p1 n2 :=
  (f63_e_mem k c92 retF p1 n2)

noncomputable def G63 : Nat → PV → Int → (Bool → R) → R
  | 0, _, _, _ => none
  | k + 1, p1, n2, ret0 => f63_N k (G92 k) ret0 p1 n2
theorem S63 : ∀ k, Snd Try.prog 63 f63_I f63_O (fun x ret => G63 k x.1 x.2 (fun y0 => ret y0))
  | 0 => snd_none
  | k + 1 => snd_step (E := f63_E k (G92 k)) rfl laidOut noNums (orc_ok (S92 k).o f92_D_ok orc0_ok) (f := 63) (fn := Try.f63) (code := f63_code) Try.func63 (by kernel_rfl) (drawsOk_of laidOut (orc_ok (S92 k).o f92_D_ok orc0_ok) mixed (by kernel_rfl)) f63_un f63_un_ok [] (fun _ => rfl)
      (fun x ret => f63_eq k (G92 k) ret x.1 x.2)

/- catchpole/core.Groups$1 -/
noncomputable def f62_I : PV × (List PV) → List SV × Obs := fun x => ([.val 27 x.1, .ptr 4000000 []], [(4000000, .box 44 (.own 44 4000001)), (4000001, .row 3 x.2)])
noncomputable def f62_D : List SV → Obs → Option (PV × (List PV))
  | [.val 27 p1, .ptr 4000000 []], [(4000000, .box 44 (.own 44 4000001)), (4000001, .row 3 l2)] => some (p1, l2)
  | _, _ => none
theorem f62_D_ok (args : List SV) (B : Obs) (x : PV × (List PV)) (h : f62_D args B = some x) : f62_I x = (args, B) := by
  unfold f62_D at h
  split at h
  · injection h with h; subst h; rfl
  · cases h
noncomputable def f62_O : (List PV) → Out := (fun y => ([], [(4000000, .box 44 (.own 44 4000001)), (4000001, .row 3 y)]))
noncomputable def f62_un : Out → Option ((List PV))
  | ([], [(4000000, .box 44 (.own 44 4000001)), (4000001, .row 3 y0)]) => some y0
  | _ => none
theorem f62_un_ok (o : Out) (y : (List PV)) (h : f62_un o = some y) : o = f62_O y := by
  unfold f62_un at h
  split at h
  · injection h with h; subst h; rfl
  · cases h
noncomputable def f62_msk : Nat → Option (List Nat) := fun key =>  none
noncomputable def f62_C (c63 : PV → Int → (Bool → R) → R) : Oracle := orc 63 f63_D f63_O (fun x ret => c63 x.1 x.2 (fun y0 => ret y0)) <| orc0
noncomputable def f62_E (k : Nat) (c63 : PV → Int → (Bool → R) → R) : Env := { P := Try.prog, nilOwn := fun d => false, fldOwn := fun d i => false, ownPar := ownPars, ownRet := false, mask := f62_msk, fuel := k, C := f62_C c63 }
noncomputable def f62_code : Code := Try.f62.body.getD .skip
noncomputable def f62_e (c63 : PV → Int → (Bool → R) → R) (ret0 : (List PV) → R) (p1 : PV) (l2 : List PV) : R :=
  bif ((decide ((PV.num (PV.fld p1 0)) = (6 : Int))) == true) then
    c63 (PV.list l2) (PV.num (PV.fld p1 2)) fun b3 =>
    bif (!b3) then
      bif (true && roomy (List.length l2 + List.length [(PV.int (PV.num (PV.fld p1 2)))]) 8) then
        ret0 (l2 ++ [(PV.int (PV.num (PV.fld p1 2)))])
      else none
    else ret0 l2
  else ret0 l2

theorem f62_e_mem (k : Nat) (c63 : PV → Int → (Bool → R) → R) (retF : (List PV) → R) (p1 : PV) (l2 : List PV) : exec (f62_E k c63) f62_code (endK (f62_E k c63) Try.f62 [4000000, 4000001] f62_un retF) ⟨[.val 27 p1, .ptr 4000000 [], .undef, .undef, .undef, .undef, .undef, .undef, .undef, .undef, .undef, .undef, .undef, .undef, .undef, .undef, .undef, .undef], [(4000000, .box 44 (.own 44 4000001)), (4000001, .row 3 l2)]⟩ = f62_e c63 (fun y0 => retF y0) p1 l2 := by kernel_rfl

noncomputable def f62_N (k : Nat) (c63 : PV → Int → (Bool → R) → R) (ret0 : (List PV) → R) (p1 : PV) (l2 : List PV) : R :=
  f62_e c63 ret0 p1 l2
theorem f62_eq (k : Nat) (c63 : PV → Int → (Bool → R) → R) (retF : (List PV) → R) (p1 : PV) (l2 : List PV) : exec (f62_E k c63) f62_code (endK (f62_E k c63) Try.f62 [4000000, 4000001] f62_un retF) ⟨[.val 27 p1, .ptr 4000000 [], .undef, .undef, .undef, .undef, .undef, .undef, .undef, .undef, .undef, .undef, .undef, .undef, .undef, .undef, .undef, .undef], [(4000000, .box 44 (.own 44 4000001)), (4000001, .row 3 l2)]⟩ = f62_N k c63 (fun y0 => retF y0) p1 l2 :=
  (f62_e_mem k c63 retF p1 l2)

noncomputable def G62 : Nat → PV → (List PV) → ((List PV) → R) → R
  | 0, _, _, _ => none
  | k + 1, p1, l2, ret0 => f62_N k (G63 k) ret0 p1 l2
theorem S62 : ∀ k, Snd Try.prog 62 f62_I f62_O (fun x ret => G62 k x.1 x.2 (fun y0 => ret y0))
  | 0 => snd_none
  | k + 1 => snd_step (E := f62_E k (G63 k)) rfl laidOut noNums (orc_ok (S63 k).o f63_D_ok orc0_ok) (f := 62) (fn := Try.f62) (code := f62_code) Try.func62 (by kernel_rfl) (drawsOk_of laidOut (orc_ok (S63 k).o f63_D_ok orc0_ok) mixed (by kernel_rfl)) f62_un f62_un_ok [4000000, 4000001] (fun _ => rfl)
      (fun x ret => f62_eq k (G63 k) ret x.1 x.2)

/- catchpole/core.each -/
noncomputable def f61_I : PV × (List PV) → List SV × Obs := fun x => ([.val 27 x.1, .fn 62 [.ptr 4001000 []]], [(4001000, .box 44 (.own 44 4001001)), (4001001, .row 3 x.2)])
noncomputable def f61_D : List SV → Obs → Option (PV × (List PV))
  | [.val 27 p1, .fn 62 [.ptr 4001000 []]], [(4001000, .box 44 (.own 44 4001001)), (4001001, .row 3 l2)] => some (p1, l2)
  | _, _ => none
theorem f61_D_ok (args : List SV) (B : Obs) (x : PV × (List PV)) (h : f61_D args B = some x) : f61_I x = (args, B) := by
  unfold f61_D at h
  split at h
  · injection h with h; subst h; rfl
  · cases h
noncomputable def f61_O : (List PV) → Out := (fun y => ([], [(4001000, .box 44 (.own 44 4001001)), (4001001, .row 3 y)]))
noncomputable def f61_un : Out → Option ((List PV))
  | ([], [(4001000, .box 44 (.own 44 4001001)), (4001001, .row 3 y0)]) => some y0
  | _ => none
theorem f61_un_ok (o : Out) (y : (List PV)) (h : f61_un o = some y) : o = f61_O y := by
  unfold f61_un at h
  split at h
  · injection h with h; subst h; rfl
  · cases h
noncomputable def f61_msk : Nat → Option (List Nat) := fun key => bif key == 9 then some [1, 10, 11, 12] else none
noncomputable def f61_C (c61 : PV → (List PV) → ((List PV) → R) → R) (c62 : PV → (List PV) → ((List PV) → R) → R) : Oracle := orc 61 f61_D f61_O (fun x ret => c61 x.1 x.2 (fun y0 => ret y0)) <| orc 62 f62_D f62_O (fun x ret => c62 x.1 x.2 (fun y0 => ret y0)) <| orc0
noncomputable def f61_E (k : Nat) (c61 : PV → (List PV) → ((List PV) → R) → R) (c62 : PV → (List PV) → ((List PV) → R) → R) : Env := { P := Try.prog, nilOwn := fun d => false, fldOwn := fun d i => false, ownPar := ownPars, ownRet := false, mask := f61_msk, fuel := k, C := f61_C c61 c62 }
noncomputable def f61_code : Code := Try.f61.body.getD .skip
noncomputable def f61_cw1 : Code := subC f61_code [1, 1, 1, 0, 0]
noncomputable def f61_hw1_0 (p1 : PV) (n5 : Int) (l6 : List PV) : St := ⟨[.dead, .fn 62 [.ptr 4001000 []], .dead, .dead, .dead, .dead, .dead, .dead, .dead, .dead, .val 25 (PV.fld p1 3), .int .i64 (List.length (PV.els (PV.fld p1 3)) : Int), .int .i64 n5, .dead, .dead, .dead, .dead, .dead, .dead, .dead], [(4001000, .box 44 (.own 44 4001001)), (4001001, .row 3 l6)]⟩
noncomputable def f61_w1A (k : Nat) (c61 : PV → (List PV) → ((List PV) → R) → R) (c62 : PV → (List PV) → ((List PV) → R) → R) (retF : (List PV) → R) (p1 : PV) (n5 : Int) (l6 : List PV) : R := loopM (f61_E k c61 c62) f61_cw1 (kont (f61_E k c61 c62) f61_code [1, 1, 1, 0] (endK (f61_E k c61 c62) Try.f61 [4001000, 4001001] f61_un retF)) k (f61_hw1_0 p1 n5 l6)
noncomputable def f61_w1b0 (c61 : PV → (List PV) → ((List PV) → R) → R) (c62 : PV → (List PV) → ((List PV) → R) → R) (ret0 : (List PV) → R) (next_w1_0 : Int → (List PV) → R) (p1 : PV) (n5 : Int) (l6 : List PV) : R :=
  bif (decide (n5 < (List.length (PV.els (PV.fld p1 3)) : Int))) then
    bif (true && decide ((0 : Int) ≤ n5) && decide (n5 < (List.length (PV.els (PV.fld p1 3)) : Int))) then
      c61 (List.getD (PV.els (PV.fld p1 3)) (n5).toNat PV.nil) l6 fun l7 =>
      next_w1_0 (IntKind.wrap .i64 (n5 + (1 : Int))) l7
    else none
  else ret0 l6

theorem f61_w1b0_mem (k : Nat) (c61 : PV → (List PV) → ((List PV) → R) → R) (c62 : PV → (List PV) → ((List PV) → R) → R) (retF : (List PV) → R) (NX_w1 : St → R) (p1 : PV) (n5 : Int) (l6 : List PV) : exec (f61_E k c61 c62) f61_cw1 (purgeK (f61_E k c61 c62) f61_cw1 (loopK NX_w1 (kont (f61_E k c61 c62) f61_code [1, 1, 1, 0] (endK (f61_E k c61 c62) Try.f61 [4001000, 4001001] f61_un retF)))) (f61_hw1_0 p1 n5 l6) = f61_w1b0 c61 c62 (fun y0 => retF y0) (fun n5 l6 => NX_w1 (f61_hw1_0 p1 n5 l6)) p1 n5 l6 := by kernel_rfl

noncomputable def f61_w1b0N (k : Nat) (c61 : PV → (List PV) → ((List PV) → R) → R) (c62 : PV → (List PV) → ((List PV) → R) → R) (ret0 : (List PV) → R) (next_w1_0 : Int → (List PV) → R) (p1 : PV) (n5 : Int) (l6 : List PV) : R :=
  f61_w1b0 c61 c62 ret0 next_w1_0 p1 n5 l6
theorem f61_w1b0_eq (k : Nat) (c61 : PV → (List PV) → ((List PV) → R) → R) (c62 : PV → (List PV) → ((List PV) → R) → R) (retF : (List PV) → R) (NX_w1 : St → R) (p1 : PV) (n5 : Int) (l6 : List PV) : exec (f61_E k c61 c62) f61_cw1 (purgeK (f61_E k c61 c62) f61_cw1 (loopK NX_w1 (kont (f61_E k c61 c62) f61_code [1, 1, 1, 0] (endK (f61_E k c61 c62) Try.f61 [4001000, 4001001] f61_un retF)))) (f61_hw1_0 p1 n5 l6) = f61_w1b0N k c61 c62 (fun y0 => retF y0) (fun n5 l6 => NX_w1 (f61_hw1_0 p1 n5 l6)) p1 n5 l6 :=
  (f61_w1b0_mem k c61 c62 retF NX_w1 p1 n5 l6)

noncomputable def f61_w1B (k : Nat) (c61 : PV → (List PV) → ((List PV) → R) → R) (c62 : PV → (List PV) → ((List PV) → R) → R) (ret0 : (List PV) → R) (p1 : PV) (nx : Int × (List PV) → R) : Int × (List PV) → R := (fun s => f61_w1b0N k c61 c62 ret0 (fun n5 l6 => nx (n5, l6)) p1 s.1 s.2)
noncomputable def f61_w1N (k : Nat) (c61 : PV → (List PV) → ((List PV) → R) → R) (c62 : PV → (List PV) → ((List PV) → R) → R) (ret0 : (List PV) → R) (p1 : PV) (n5 : Int) (l6 : List PV) : R := loopR (f61_w1B k c61 c62 ret0 p1) k (n5, l6)
theorem f61_w1_eq (k : Nat) (c61 : PV → (List PV) → ((List PV) → R) → R) (c62 : PV → (List PV) → ((List PV) → R) → R) (retF : (List PV) → R) (p1 : PV) (n5 : Int) (l6 : List PV) : f61_w1A k c61 c62 retF p1 n5 l6 = f61_w1N k c61 c62 (fun y0 => retF y0) p1 n5 l6 :=
  Eq.mp (by kernel_rfl) (loop_sim (E := (f61_E k c61 c62)) (c := f61_cw1) (K := (kont (f61_E k c61 c62) f61_code [1, 1, 1, 0] (endK (f61_E k c61 c62) Try.f61 [4001000, 4001001] f61_un retF))) (S := Int × (List PV)) (fun s => f61_hw1_0 p1 s.1 s.2) (f61_w1B k c61 c62 (fun y0 => retF y0) p1) (fun NX s => by
    exact Eq.mp (by kernel_rfl) (f61_w1b0_eq k c61 c62 retF NX p1 s.1 s.2)) k (n5, l6))

noncomputable def f61_e (c61 : PV → (List PV) → ((List PV) → R) → R) (c62 : PV → (List PV) → ((List PV) → R) → R) (ret0 : (List PV) → R) (w1 : Int → (List PV) → R) (p1 : PV) (l2 : List PV) : R :=
  c62 p1 l2 fun l3 =>
  w1 0 l3

theorem f61_e_mem (k : Nat) (c61 : PV → (List PV) → ((List PV) → R) → R) (c62 : PV → (List PV) → ((List PV) → R) → R) (retF : (List PV) → R) (p1 : PV) (l2 : List PV) : exec (f61_E k c61 c62) f61_code (endK (f61_E k c61 c62) Try.f61 [4001000, 4001001] f61_un retF) ⟨[.val 27 p1, .fn 62 [.ptr 4001000 []], .undef, .undef, .undef, .undef, .undef, .undef, .undef, .undef, .undef, .undef, .undef, .undef, .undef, .undef, .undef, .undef, .undef, .undef], [(4001000, .box 44 (.own 44 4001001)), (4001001, .row 3 l2)]⟩ = f61_e c61 c62 (fun y0 => retF y0) (fun n5 l6 => f61_w1A k c61 c62 retF p1 n5 l6) p1 l2 := by kernel_rfl

noncomputable def f61_N (k : Nat) (c61 : PV → (List PV) → ((List PV) → R) → R) (c62 : PV → (List PV) → ((List PV) → R) → R) (ret0 : (List PV) → R) (p1 : PV) (l2 : List PV) : R :=
  f61_e c61 c62 ret0 (fun n5 l6 => f61_w1N k c61 c62 ret0 p1 n5 l6) p1 l2
theorem f61_eq (k : Nat) (c61 : PV → (List PV) → ((List PV) → R) → R) (c62 : PV → (List PV) → ((List PV) → R) → R) (retF : (List PV) → R) (p1 : PV) (l2 : List PV) : exec (f61_E k c61 c62) f61_code (endK (f61_E k c61 c62) Try.f61 [4001000, 4001001] f61_un retF) ⟨[.val 27 p1, .fn 62 [.ptr 4001000 []], .undef, .undef, .undef, .undef, .undef, .undef, .undef, .undef, .undef, .undef, .undef, .undef, .undef, .undef, .undef, .undef, .undef, .undef], [(4001000, .box 44 (.own 44 4001001)), (4001001, .row 3 l2)]⟩ = f61_N k c61 c62 (fun y0 => retF y0) p1 l2 :=
  (f61_e_mem k c61 c62 retF p1 l2).trans (by rw [show (fun n5 l6 => f61_w1A k c61 c62 retF p1 n5 l6) = (fun n5 l6 => f61_w1N k c61 c62 (fun y0 => retF y0) p1 n5 l6) from funext fun n5 => funext fun l6 => f61_w1_eq k c61 c62 retF p1 n5 l6]; rfl)

noncomputable def G61 : Nat → PV → (List PV) → ((List PV) → R) → R
  | 0, _, _, _ => none
  | k + 1, p1, l2, ret0 => f61_N k (G61 k) (G62 k) ret0 p1 l2
theorem S61 : ∀ k, Snd Try.prog 61 f61_I f61_O (fun x ret => G61 k x.1 x.2 (fun y0 => ret y0))
  | 0 => snd_none
  | k + 1 => snd_step (E := f61_E k (G61 k) (G62 k)) rfl laidOut noNums (orc_ok (S61 k).o f61_D_ok (orc_ok (S62 k).o f62_D_ok orc0_ok)) (f := 61) (fn := Try.f61) (code := f61_code) Try.func61 (by kernel_rfl) (drawsOk_of laidOut (orc_ok (S61 k).o f61_D_ok (orc_ok (S62 k).o f62_D_ok orc0_ok)) mixed (by kernel_rfl)) f61_un f61_un_ok [4001000, 4001001] (fun _ => rfl)
      (fun x ret => f61_eq k (G61 k) (G62 k) ret x.1 x.2)

/- catchpole/core.Groups -/
noncomputable def f29_I : PV → List SV × Obs := fun x => ([.val 27 x], [])
noncomputable def f29_D : List SV → Obs → Option (PV)
  | [.val 27 p1], [] => some p1
  | _, _ => none
theorem f29_D_ok (args : List SV) (B : Obs) (x : PV) (h : f29_D args B = some x) : f29_I x = (args, B) := by
  unfold f29_D at h
  split at h
  · injection h with h; subst h; rfl
  · cases h
noncomputable def f29_O : PV → Out := (fun y => ([.val 44 y], []))
noncomputable def f29_un : Out → Option (PV)
  | ([.val 44 y0], []) => some y0
  | _ => none
theorem f29_un_ok (o : Out) (y : PV) (h : f29_un o = some y) : o = f29_O y := by
  unfold f29_un at h
  split at h
  · injection h with h; subst h; rfl
  · cases h
noncomputable def f29_msk : Nat → Option (List Nat) := fun key =>  none
noncomputable def f29_C (c61 : PV → (List PV) → ((List PV) → R) → R) : Oracle := orc 61 f61_D f61_O (fun x ret => c61 x.1 x.2 (fun y0 => ret y0)) <| orc0
noncomputable def f29_E (k : Nat) (c61 : PV → (List PV) → ((List PV) → R) → R) : Env := { P := Try.prog, nilOwn := fun d => false, fldOwn := fun d i => (d == 3 && i == 0), ownPar := ownPars, ownRet := false, mask := f29_msk, fuel := k, C := f29_C c61 }
noncomputable def f29_code : Code := Try.f29.body.getD .skip
noncomputable def f29_e (c61 : PV → (List PV) → ((List PV) → R) → R) (ret0 : PV → R) (p1 : PV) : R :=
  c61 p1 [] fun l2 =>
  ret0 (PV.list l2)

theorem f29_e_mem (k : Nat) (c61 : PV → (List PV) → ((List PV) → R) → R) (retF : PV → R) (p1 : PV) : exec (f29_E k c61) f29_code (endK (f29_E k c61) Try.f29 [] f29_un retF) ⟨[.val 27 p1, .undef, .undef, .undef, .undef, .undef, .undef, .undef], []⟩ = f29_e c61 (fun y0 => retF y0) p1 := by kernel_rfl

noncomputable def f29_N (k : Nat) (c61 : PV → (List PV) → ((List PV) → R) → R) (ret0 : PV → R) (p1 : PV) : R :=
  f29_e c61 ret0 p1
theorem f29_eq (k : Nat) (c61 : PV → (List PV) → ((List PV) → R) → R) (retF : PV → R) (p1 : PV) : exec (f29_E k c61) f29_code (endK (f29_E k c61) Try.f29 [] f29_un retF) ⟨[.val 27 p1, .undef, .undef, .undef, .undef, .undef, .undef, .undef], []⟩ = f29_N k c61 (fun y0 => retF y0) p1 :=
  (f29_e_mem k c61 retF p1)

noncomputable def G29 : Nat → PV → (PV → R) → R
  | 0, _, _ => none
  | k + 1, p1, ret0 => f29_N k (G61 k) ret0 p1
theorem S29 : ∀ k, Snd Try.prog 29 f29_I f29_O (fun x ret => G29 k x (fun y0 => ret y0))
  | 0 => snd_none
  | k + 1 => snd_step (E := f29_E k (G61 k)) rfl laidOut noNums (orc_ok (S61 k).o f61_D_ok orc0_ok) (f := 29) (fn := Try.f29) (code := f29_code) Try.func29 (by kernel_rfl) (drawsOk_of laidOut (orc_ok (S61 k).o f61_D_ok orc0_ok) mixed (by kernel_rfl)) f29_un f29_un_ok [] (fun _ => rfl)
      (fun x ret => f29_eq k (G61 k) ret x)

/- catchpole/catchpolelaw16.DerivTidy -/
noncomputable def f5_I : PV → List SV × Obs := fun x => ([.val 27 x], [])
noncomputable def f5_D : List SV → Obs → Option (PV)
  | [.val 27 p1], [] => some p1
  | _, _ => none
theorem f5_D_ok (args : List SV) (B : Obs) (x : PV) (h : f5_D args B = some x) : f5_I x = (args, B) := by
  unfold f5_D at h
  split at h
  · injection h with h; subst h; rfl
  · cases h
noncomputable def f5_O : Bool → Out := (fun y => ([.bool y], []))
noncomputable def f5_un : Out → Option (Bool)
  | ([.bool y0], []) => some y0
  | _ => none
theorem f5_un_ok (o : Out) (y : Bool) (h : f5_un o = some y) : o = f5_O y := by
  unfold f5_un at h
  split at h
  · injection h with h; subst h; rfl
  · cases h
noncomputable def f5_msk : Nat → Option (List Nat) := fun key =>  none
noncomputable def f5_C (c14 : (Bool → R) → R) (c15 : PV → Int → (Bool → R) → R) (c16 : PV → (Int → R) → R) (c18 : PV → PV → (Bool → R) → R) (c26 : PV → (PV → R) → R) (c28 : PV → (Bool → R) → R) (c29 : PV → (PV → R) → R) : Oracle := orc 14 f14_D f14_O (fun x ret => c14 (fun y0 => ret y0)) <| orc 15 f15_D f15_O (fun x ret => c15 x.1 x.2 (fun y0 => ret y0)) <| orc 16 f16_D f16_O (fun x ret => c16 x (fun y0 => ret y0)) <| orc 18 f18_D f18_O (fun x ret => c18 x.1 x.2 (fun y0 => ret y0)) <| orc 26 f26_D f26_O (fun x ret => c26 x (fun y0 => ret y0)) <| orc 28 f28_D f28_O (fun x ret => c28 x (fun y0 => ret y0)) <| orc 29 f29_D f29_O (fun x ret => c29 x (fun y0 => ret y0)) <| orc0
noncomputable def f5_E (k : Nat) (c14 : (Bool → R) → R) (c15 : PV → Int → (Bool → R) → R) (c16 : PV → (Int → R) → R) (c18 : PV → PV → (Bool → R) → R) (c26 : PV → (PV → R) → R) (c28 : PV → (Bool → R) → R) (c29 : PV → (PV → R) → R) : Env := { P := Try.prog, nilOwn := fun d => false, fldOwn := fun d i => false, ownPar := ownPars, ownRet := false, mask := f5_msk, fuel := k, C := f5_C c14 c15 c16 c18 c26 c28 c29 }
noncomputable def f5_code : Code := Try.f5.body.getD .skip
noncomputable def f5_e (c14 : (Bool → R) → R) (c15 : PV → Int → (Bool → R) → R) (c16 : PV → (Int → R) → R) (c18 : PV → PV → (Bool → R) → R) (c26 : PV → (PV → R) → R) (c28 : PV → (Bool → R) → R) (c29 : PV → (PV → R) → R) (ret0 : Bool → R) (p1 : PV) : R :=
  c14 fun b2 =>
  bif (!b2) then
    ret0 false
  else c15 p1 100 fun b3 =>
  bif (b3 == false) then
    c16 p1 fun n4 =>
    bif ((decide ((300 : Int) < n4)) == false) then
      c28 p1 fun b5 =>
      bif (!b5) then
        ret0 true
      else c26 p1 fun p6 =>
      c28 p6 fun b7 =>
      bif (b7 == true) then
        c16 p6 fun n8 =>
        c16 p1 fun n9 =>
        bif ((decide (n8 ≤ n9)) == true) then
          c26 p6 fun p10 =>
          c18 p10 p6 fun b11 =>
          bif (b11 == true) then
            c29 p6 fun p12 =>
            ret0 (decide ((List.length (PV.els p12) : Int) = (0 : Int)))
          else ret0 false
        else ret0 false
      else ret0 false
    else ret0 true
  else ret0 true

theorem f5_e_mem (k : Nat) (c14 : (Bool → R) → R) (c15 : PV → Int → (Bool → R) → R) (c16 : PV → (Int → R) → R) (c18 : PV → PV → (Bool → R) → R) (c26 : PV → (PV → R) → R) (c28 : PV → (Bool → R) → R) (c29 : PV → (PV → R) → R) (retF : Bool → R) (p1 : PV) : exec (f5_E k c14 c15 c16 c18 c26 c28 c29) f5_code (endK (f5_E k c14 c15 c16 c18 c26 c28 c29) Try.f5 [] f5_un retF) ⟨[.val 27 p1, .undef, .undef, .undef, .undef, .undef, .undef, .undef, .undef, .undef, .undef, .undef, .undef, .undef, .undef, .undef, .undef, .undef, .undef, .undef, .undef, .undef, .undef, .undef, .undef, .undef, .undef, .undef, .undef, .undef, .undef, .undef, .undef, .undef, .undef, .undef, .undef, .undef, .undef, .undef, .undef], []⟩ = f5_e c14 c15 c16 c18 c26 c28 c29 (fun y0 => retF y0) p1 := by kernel_rfl

noncomputable def f5_N (k : Nat) (c14 : (Bool → R) → R) (c15 : PV → Int → (Bool → R) → R) (c16 : PV → (Int → R) → R) (c18 : PV → PV → (Bool → R) → R) (c26 : PV → (PV → R) → R) (c28 : PV → (Bool → R) → R) (c29 : PV → (PV → R) → R) (ret0 : Bool → R) (p1 : PV) : R :=
  f5_e c14 c15 c16 c18 c26 c28 c29 ret0 p1
theorem f5_eq (k : Nat) (c14 : (Bool → R) → R) (c15 : PV → Int → (Bool → R) → R) (c16 : PV → (Int → R) → R) (c18 : PV → PV → (Bool → R) → R) (c26 : PV → (PV → R) → R) (c28 : PV → (Bool → R) → R) (c29 : PV → (PV → R) → R) (retF : Bool → R) (p1 : PV) : exec (f5_E k c14 c15 c16 c18 c26 c28 c29) f5_code (endK (f5_E k c14 c15 c16 c18 c26 c28 c29) Try.f5 [] f5_un retF) ⟨[.val 27 p1, .undef, .undef, .undef, .undef, .undef, .undef, .undef, .undef, .undef, .undef, .undef, .undef, .undef, .undef, .undef, .undef, .undef, .undef, .undef, .undef, .undef, .undef, .undef, .undef, .undef, .undef, .undef, .undef, .undef, .undef, .undef, .undef, .undef, .undef, .undef, .undef, .undef, .undef, .undef, .undef], []⟩ = f5_N k c14 c15 c16 c18 c26 c28 c29 (fun y0 => retF y0) p1 :=
  (f5_e_mem k c14 c15 c16 c18 c26 c28 c29 retF p1)

noncomputable def G5 : Nat → PV → (Bool → R) → R
  | 0, _, _ => none
  | k + 1, p1, ret0 => f5_N k (G14 k) (G15 k) (G16 k) (G18 k) (G26 k) (G28 k) (G29 k) ret0 p1
theorem S5 : ∀ k, Snd Try.prog 5 f5_I f5_O (fun x ret => G5 k x (fun y0 => ret y0))
  | 0 => snd_none
  | k + 1 => snd_step (E := f5_E k (G14 k) (G15 k) (G16 k) (G18 k) (G26 k) (G28 k) (G29 k)) rfl laidOut noNums (orc_ok (S14 k).o f14_D_ok (orc_ok (S15 k).o f15_D_ok (orc_ok (S16 k).o f16_D_ok (orc_ok (S18 k).o f18_D_ok (orc_ok (S26 k).o f26_D_ok (orc_ok (S28 k).o f28_D_ok (orc_ok (S29 k).o f29_D_ok orc0_ok))))))) (f := 5) (fn := Try.f5) (code := f5_code) Try.func5 (by kernel_rfl) (drawsOk_of laidOut (orc_ok (S14 k).o f14_D_ok (orc_ok (S15 k).o f15_D_ok (orc_ok (S16 k).o f16_D_ok (orc_ok (S18 k).o f18_D_ok (orc_ok (S26 k).o f26_D_ok (orc_ok (S28 k).o f28_D_ok (orc_ok (S29 k).o f29_D_ok orc0_ok))))))) mixed (by kernel_rfl)) f5_un f5_un_ok [] (fun _ => rfl)
      (fun x ret => f5_eq k (G14 k) (G15 k) (G16 k) (G18 k) (G26 k) (G28 k) (G29 k) ret x)

/- catchpole/lang.some -/
noncomputable def f93_I : PV → List SV × Obs := fun x => ([.val 27 x], [])
noncomputable def f93_D : List SV → Obs → Option (PV)
  | [.val 27 p1], [] => some p1
  | _, _ => none
theorem f93_D_ok (args : List SV) (B : Obs) (x : PV) (h : f93_D args B = some x) : f93_I x = (args, B) := by
  unfold f93_D at h
  split at h
  · injection h with h; subst h; rfl
  · cases h
noncomputable def f93_O : Bool → Out := (fun y => ([.bool y], []))
noncomputable def f93_un : Out → Option (Bool)
  | ([.bool y0], []) => some y0
  | _ => none
theorem f93_un_ok (o : Out) (y : Bool) (h : f93_un o = some y) : o = f93_O y := by
  unfold f93_un at h
  split at h
  · injection h with h; subst h; rfl
  · cases h
noncomputable def f93_msk : Nat → Option (List Nat) := fun key =>  none
noncomputable def f93_C (c85 : PV → (Int → R) → R) (c93 : PV → (Bool → R) → R) : Oracle := orc 85 f85_D f85_O (fun x ret => c85 x (fun y0 => ret y0)) <| orc 93 f93_D f93_O (fun x ret => c93 x (fun y0 => ret y0)) <| orc0
noncomputable def f93_E (k : Nat) (c85 : PV → (Int → R) → R) (c93 : PV → (Bool → R) → R) : Env := { P := Try.prog, nilOwn := fun d => false, fldOwn := fun d i => false, ownPar := ownPars, ownRet := false, mask := f93_msk, fuel := k, C := f93_C c85 c93 }
noncomputable def f93_code : Code := Try.f93.body.getD .skip
noncomputable def f93_e (c85 : PV → (Int → R) → R) (c93 : PV → (Bool → R) → R) (ret0 : Bool → R) (p1 : PV) : R :=
  bif (decide ((PV.num (PV.fld p1 0)) = (0 : Int))) then
    ret0 false
  else bif (decide ((PV.num (PV.fld p1 0)) = (2 : Int))) then
    c85 (PV.fld p1 1) fun n2 =>
    ret0 (decide ((0 : Int) < n2))
  else bif (decide ((PV.num (PV.fld p1 0)) = (3 : Int))) then
    bif (true && decide ((0 : Int) ≤ (0 : Int)) && decide ((0 : Int) < (List.length (PV.els (PV.fld p1 3)) : Int))) then
      c93 (List.getD (PV.els (PV.fld p1 3)) ((0 : Int)).toNat PV.nil) fun b3 =>
      bif (b3 == true) then
        bif (true && decide ((0 : Int) ≤ (1 : Int)) && decide ((1 : Int) < (List.length (PV.els (PV.fld p1 3)) : Int))) then
          c93 (List.getD (PV.els (PV.fld p1 3)) ((1 : Int)).toNat PV.nil) fun b4 =>
          ret0 b4
        else none
      else ret0 false
    else none
  else bif (decide ((PV.num (PV.fld p1 0)) = (4 : Int))) then
    bif (true && decide ((0 : Int) ≤ (0 : Int)) && decide ((0 : Int) < (List.length (PV.els (PV.fld p1 3)) : Int))) then
      c93 (List.getD (PV.els (PV.fld p1 3)) ((0 : Int)).toNat PV.nil) fun b5 =>
      bif (b5 == false) then
        bif (true && decide ((0 : Int) ≤ (1 : Int)) && decide ((1 : Int) < (List.length (PV.els (PV.fld p1 3)) : Int))) then
          c93 (List.getD (PV.els (PV.fld p1 3)) ((1 : Int)).toNat PV.nil) fun b6 =>
          ret0 b6
        else none
      else ret0 true
    else none
  else bif (decide ((PV.num (PV.fld p1 0)) = (6 : Int))) then
    bif (true && decide ((0 : Int) ≤ (0 : Int)) && decide ((0 : Int) < (List.length (PV.els (PV.fld p1 3)) : Int))) then
      c93 (List.getD (PV.els (PV.fld p1 3)) ((0 : Int)).toNat PV.nil) fun b7 =>
      ret0 b7
    else none
  else bif (decide ((PV.num (PV.fld p1 0)) = (7 : Int))) then
    bif (true && decide ((0 : Int) ≤ (0 : Int)) && decide ((0 : Int) < (List.length (PV.els (PV.fld p1 3)) : Int))) then
      c93 (List.getD (PV.els (PV.fld p1 3)) ((0 : Int)).toNat PV.nil) fun b8 =>
      ret0 b8
    else none
  else ret0 true

theorem f93_e_mem (k : Nat) (c85 : PV → (Int → R) → R) (c93 : PV → (Bool → R) → R) (retF : Bool → R) (p1 : PV) : exec (f93_E k c85 c93) f93_code (endK (f93_E k c85 c93) Try.f93 [] f93_un retF) ⟨[.val 27 p1, .undef, .undef, .undef, .undef, .undef, .undef, .undef, .undef, .undef, .undef, .undef, .undef, .undef, .undef, .undef, .undef, .undef, .undef, .undef, .undef, .undef, .undef, .undef, .undef, .undef, .undef, .undef, .undef, .undef, .undef, .undef, .undef, .undef, .undef, .undef, .undef, .undef, .undef, .undef, .undef, .undef, .undef, .undef, .undef, .undef, .undef, .undef, .undef], []⟩ = f93_e c85 c93 (fun y0 => retF y0) p1 := by kernel_rfl

noncomputable def f93_N (k : Nat) (c85 : PV → (Int → R) → R) (c93 : PV → (Bool → R) → R) (ret0 : Bool → R) (p1 : PV) : R :=
  f93_e c85 c93 ret0 p1
theorem f93_eq (k : Nat) (c85 : PV → (Int → R) → R) (c93 : PV → (Bool → R) → R) (retF : Bool → R) (p1 : PV) : exec (f93_E k c85 c93) f93_code (endK (f93_E k c85 c93) Try.f93 [] f93_un retF) ⟨[.val 27 p1, .undef, .undef, .undef, .undef, .undef, .undef, .undef, .undef, .undef, .undef, .undef, .undef, .undef, .undef, .undef, .undef, .undef, .undef, .undef, .undef, .undef, .undef, .undef, .undef, .undef, .undef, .undef, .undef, .undef, .undef, .undef, .undef, .undef, .undef, .undef, .undef, .undef, .undef, .undef, .undef, .undef, .undef, .undef, .undef, .undef, .undef, .undef, .undef], []⟩ = f93_N k c85 c93 (fun y0 => retF y0) p1 :=
  (f93_e_mem k c85 c93 retF p1)

noncomputable def G93 : Nat → PV → (Bool → R) → R
  | 0, _, _ => none
  | k + 1, p1, ret0 => f93_N k (G85 k) (G93 k) ret0 p1
theorem S93 : ∀ k, Snd Try.prog 93 f93_I f93_O (fun x ret => G93 k x (fun y0 => ret y0))
  | 0 => snd_none
  | k + 1 => snd_step (E := f93_E k (G85 k) (G93 k)) rfl laidOut noNums (orc_ok (S85 k).o f85_D_ok (orc_ok (S93 k).o f93_D_ok orc0_ok)) (f := 93) (fn := Try.f93) (code := f93_code) Try.func93 (by kernel_rfl) (drawsOk_of laidOut (orc_ok (S85 k).o f85_D_ok (orc_ok (S93 k).o f93_D_ok orc0_ok)) mixed (by kernel_rfl)) f93_un f93_un_ok [] (fun _ => rfl)
      (fun x ret => f93_eq k (G85 k) (G93 k) ret x)

/- (catchpole/byteset.Set).Or -/
noncomputable def f94_I : PV × PV → List SV × Obs := fun x => ([.val 24 x.1, .val 24 x.2], [])
noncomputable def f94_D : List SV → Obs → Option (PV × PV)
  | [.val 24 p1, .val 24 p2], [] => some (p1, p2)
  | _, _ => none
theorem f94_D_ok (args : List SV) (B : Obs) (x : PV × PV) (h : f94_D args B = some x) : f94_I x = (args, B) := by
  unfold f94_D at h
  split at h
  · injection h with h; subst h; rfl
  · cases h
noncomputable def f94_O : PV → Out := (fun y => ([.val 24 y], []))
noncomputable def f94_un : Out → Option (PV)
  | ([.val 24 y0], []) => some y0
  | _ => none
theorem f94_un_ok (o : Out) (y : PV) (h : f94_un o = some y) : o = f94_O y := by
  unfold f94_un at h
  split at h
  · injection h with h; subst h; rfl
  · cases h
noncomputable def f94_msk : Nat → Option (List Nat) := fun key => bif key == 6 then some [2, 3, 4, 6] else none
noncomputable def f94_C : Oracle := orc0
noncomputable def f94_E (k : Nat) : Env := { P := Try.prog, nilOwn := fun d => false, fldOwn := fun d i => false, ownPar := ownPars, ownRet := false, mask := f94_msk, fuel := k, C := f94_C }
noncomputable def f94_code : Code := Try.f94.body.getD .skip
noncomputable def f94_cw1 : Code := subC f94_code [1, 0, 1, 0, 0]
noncomputable def f94_hw1_0 (p2 : PV) (n4 : Int) (p5 : PV) : St := ⟨[.dead, .dead, .ptr 2 [], .ptr 3 [], .ptr 4 [], .dead, .int .i64 n4, .dead, .dead, .dead, .dead, .dead, .dead, .dead, .dead, .dead, .dead, .dead, .dead], [(2, .box 24 (.val 24 p5)), (3, .box 24 (.val 24 p2)), (4, .box 24 (.val 24 (PV.agg [(PV.int 0), (PV.int 0), (PV.int 0), (PV.int 0)])))]⟩
noncomputable def f94_w1A (k : Nat) (retF : PV → R) (p2 : PV) (n4 : Int) (p5 : PV) : R := loopM (f94_E k) f94_cw1 (kont (f94_E k) f94_code [1, 0, 1, 0] (endK (f94_E k) Try.f94 [] f94_un retF)) k (f94_hw1_0 p2 n4 p5)
noncomputable def f94_w1b0 (ret0 : PV → R) (next_w1_0 : Int → PV → R) (p2 : PV) (n4 : Int) (p5 : PV) : R :=
  bif (decide (n4 < (4 : Int))) then
    bif (true && decide ((0 : Int) ≤ n4) && decide (n4 < 4)) then
      bif (true && decide ((0 : Int) ≤ n4) && decide (n4 < 4)) then
        bif (true && decide ((0 : Int) ≤ n4) && decide (n4 < 4)) then
          let p6 : PV := (PV.agg (List.set (PV.flds p5) (n4).toNat (PV.int (intBit .or .u64 (PV.num (PV.fld p5 (n4).toNat)) (PV.num (PV.fld p2 (n4).toNat))))))
          next_w1_0 (IntKind.wrap .i64 (n4 + (1 : Int))) p6
        else none
      else none
    else none
  else ret0 p5

theorem f94_w1b0_mem (k : Nat) (retF : PV → R) (NX_w1 : St → R) (p2 : PV) (n4 : Int) (p5 : PV) : exec (f94_E k) f94_cw1 (purgeK (f94_E k) f94_cw1 (loopK NX_w1 (kont (f94_E k) f94_code [1, 0, 1, 0] (endK (f94_E k) Try.f94 [] f94_un retF)))) (f94_hw1_0 p2 n4 p5) = f94_w1b0 (fun y0 => retF y0) (fun n4 p5 => NX_w1 (f94_hw1_0 p2 n4 p5)) p2 n4 p5 := by kernel_rfl

noncomputable def f94_w1b0N (k : Nat) (ret0 : PV → R) (next_w1_0 : Int → PV → R) (p2 : PV) (n4 : Int) (p5 : PV) : R :=
  f94_w1b0 ret0 next_w1_0 p2 n4 p5
theorem f94_w1b0_eq (k : Nat) (retF : PV → R) (NX_w1 : St → R) (p2 : PV) (n4 : Int) (p5 : PV) : exec (f94_E k) f94_cw1 (purgeK (f94_E k) f94_cw1 (loopK NX_w1 (kont (f94_E k) f94_code [1, 0, 1, 0] (endK (f94_E k) Try.f94 [] f94_un retF)))) (f94_hw1_0 p2 n4 p5) = f94_w1b0N k (fun y0 => retF y0) (fun n4 p5 => NX_w1 (f94_hw1_0 p2 n4 p5)) p2 n4 p5 :=
  (f94_w1b0_mem k retF NX_w1 p2 n4 p5)

noncomputable def f94_w1B (k : Nat) (ret0 : PV → R) (p2 : PV) (nx : Int × PV → R) : Int × PV → R := (fun s => f94_w1b0N k ret0 (fun n4 p5 => nx (n4, p5)) p2 s.1 s.2)
noncomputable def f94_w1N (k : Nat) (ret0 : PV → R) (p2 : PV) (n4 : Int) (p5 : PV) : R := loopR (f94_w1B k ret0 p2) k (n4, p5)
theorem f94_w1_eq (k : Nat) (retF : PV → R) (p2 : PV) (n4 : Int) (p5 : PV) : f94_w1A k retF p2 n4 p5 = f94_w1N k (fun y0 => retF y0) p2 n4 p5 :=
  Eq.mp (by kernel_rfl) (loop_sim (E := (f94_E k)) (c := f94_cw1) (K := (kont (f94_E k) f94_code [1, 0, 1, 0] (endK (f94_E k) Try.f94 [] f94_un retF))) (S := Int × PV) (fun s => f94_hw1_0 p2 s.1 s.2) (f94_w1B k (fun y0 => retF y0) p2) (fun NX s => by
    exact Eq.mp (by kernel_rfl) (f94_w1b0_eq k retF NX p2 s.1 s.2)) k (n4, p5))

noncomputable def f94_e (ret0 : PV → R) (w1 : Int → PV → R) (p1 : PV) (p2 : PV) : R :=
  w1 0 p1

theorem f94_e_mem (k : Nat) (retF : PV → R) (p1 : PV) (p2 : PV) : exec (f94_E k) f94_code (endK (f94_E k) Try.f94 [] f94_un retF) ⟨[.val 24 p1, .val 24 p2, .undef, .undef, .undef, .undef, .undef, .undef, .undef, .undef, .undef, .undef, .undef, .undef, .undef, .undef, .undef, .undef, .undef], []⟩ = f94_e (fun y0 => retF y0) (fun n4 p5 => f94_w1A k retF p2 n4 p5) p1 p2 := by kernel_rfl

noncomputable def f94_N (k : Nat) (ret0 : PV → R) (p1 : PV) (p2 : PV) : R :=
  f94_e ret0 (fun n4 p5 => f94_w1N k ret0 p2 n4 p5) p1 p2
theorem f94_eq (k : Nat) (retF : PV → R) (p1 : PV) (p2 : PV) : exec (f94_E k) f94_code (endK (f94_E k) Try.f94 [] f94_un retF) ⟨[.val 24 p1, .val 24 p2, .undef, .undef, .undef, .undef, .undef, .undef, .undef, .undef, .undef, .undef, .undef, .undef, .undef, .undef, .undef, .undef, .undef], []⟩ = f94_N k (fun y0 => retF y0) p1 p2 :=
  (f94_e_mem k retF p1 p2).trans (by rw [show (fun n4 p5 => f94_w1A k retF p2 n4 p5) = (fun n4 p5 => f94_w1N k (fun y0 => retF y0) p2 n4 p5) from funext fun n4 => funext fun p5 => f94_w1_eq k retF p2 n4 p5]; rfl)

noncomputable def G94 : Nat → PV → PV → (PV → R) → R
  | 0, _, _, _ => none
  | k + 1, p1, p2, ret0 => f94_N k  ret0 p1 p2
theorem S94 : ∀ k, Snd Try.prog 94 f94_I f94_O (fun x ret => G94 k x.1 x.2 (fun y0 => ret y0))
  | 0 => snd_none
  | k + 1 => snd_step (E := f94_E k ) rfl laidOut noNums orc0_ok (f := 94) (fn := Try.f94) (code := f94_code) Try.func94 (by kernel_rfl) (drawsOk_of laidOut orc0_ok mixed (by kernel_rfl)) f94_un f94_un_ok [] (fun _ => rfl)
      (fun x ret => f94_eq k  ret x.1 x.2)

/- catchpole/lang.first -/
noncomputable def f64_I : PV → List SV × Obs := fun x => ([.val 27 x], [])
noncomputable def f64_D : List SV → Obs → Option (PV)
  | [.val 27 p1], [] => some p1
  | _, _ => none
theorem f64_D_ok (args : List SV) (B : Obs) (x : PV) (h : f64_D args B = some x) : f64_I x = (args, B) := by
  unfold f64_D at h
  split at h
  · injection h with h; subst h; rfl
  · cases h
noncomputable def f64_O : PV → Out := (fun y => ([.val 24 y], []))
noncomputable def f64_un : Out → Option (PV)
  | ([.val 24 y0], []) => some y0
  | _ => none
theorem f64_un_ok (o : Out) (y : PV) (h : f64_un o = some y) : o = f64_O y := by
  unfold f64_un at h
  split at h
  · injection h with h; subst h; rfl
  · cases h
noncomputable def f64_msk : Nat → Option (List Nat) := fun key =>  none
noncomputable def f64_C (c64 : PV → (PV → R) → R) (c65 : PV → (Bool → R) → R) (c93 : PV → (Bool → R) → R) (c94 : PV → PV → (PV → R) → R) : Oracle := orc 64 f64_D f64_O (fun x ret => c64 x (fun y0 => ret y0)) <| orc 65 f65_D f65_O (fun x ret => c65 x (fun y0 => ret y0)) <| orc 93 f93_D f93_O (fun x ret => c93 x (fun y0 => ret y0)) <| orc 94 f94_D f94_O (fun x ret => c94 x.1 x.2 (fun y0 => ret y0)) <| orc0
noncomputable def f64_E (k : Nat) (c64 : PV → (PV → R) → R) (c65 : PV → (Bool → R) → R) (c93 : PV → (Bool → R) → R) (c94 : PV → PV → (PV → R) → R) : Env := { P := Try.prog, nilOwn := fun d => false, fldOwn := fun d i => false, ownPar := ownPars, ownRet := false, mask := f64_msk, fuel := k, C := f64_C c64 c65 c93 c94 }
noncomputable def f64_code : Code := Try.f64.body.getD .skip
noncomputable def f64_e (c64 : PV → (PV → R) → R) (c65 : PV → (Bool → R) → R) (c93 : PV → (Bool → R) → R) (c94 : PV → PV → (PV → R) → R) (ret0 : PV → R) (p1 : PV) : R :=
  bif (decide ((PV.num (PV.fld p1 0)) = (2 : Int))) then
    ret0 (PV.fld p1 1)
  else bif (decide ((PV.num (PV.fld p1 0)) = (3 : Int))) then
    bif (true && decide ((0 : Int) ≤ (0 : Int)) && decide ((0 : Int) < (List.length (PV.els (PV.fld p1 3)) : Int))) then
      c93 (List.getD (PV.els (PV.fld p1 3)) ((0 : Int)).toNat PV.nil) fun b2 =>
      bif ((!b2) == false) then
        bif (true && decide ((0 : Int) ≤ (1 : Int)) && decide ((1 : Int) < (List.length (PV.els (PV.fld p1 3)) : Int))) then
          c93 (List.getD (PV.els (PV.fld p1 3)) ((1 : Int)).toNat PV.nil) fun b3 =>
          bif (!b3) then
            ret0 (PV.agg [(PV.int 0), (PV.int 0), (PV.int 0), (PV.int 0)])
          else bif (true && decide ((0 : Int) ≤ (0 : Int)) && decide ((0 : Int) < (List.length (PV.els (PV.fld p1 3)) : Int))) then
            c64 (List.getD (PV.els (PV.fld p1 3)) ((0 : Int)).toNat PV.nil) fun p4 =>
            bif (true && decide ((0 : Int) ≤ (0 : Int)) && decide ((0 : Int) < (List.length (PV.els (PV.fld p1 3)) : Int))) then
              c65 (List.getD (PV.els (PV.fld p1 3)) ((0 : Int)).toNat PV.nil) fun b5 =>
              bif b5 then
                bif (true && decide ((0 : Int) ≤ (1 : Int)) && decide ((1 : Int) < (List.length (PV.els (PV.fld p1 3)) : Int))) then
                  c64 (List.getD (PV.els (PV.fld p1 3)) ((1 : Int)).toNat PV.nil) fun p6 =>
                  c94 p4 p6 fun p7 =>
                  ret0 p7
                else none
              else ret0 p4
            else none
          else none
        else none
      else ret0 (PV.agg [(PV.int 0), (PV.int 0), (PV.int 0), (PV.int 0)])
    else none
  else bif (decide ((PV.num (PV.fld p1 0)) = (4 : Int))) then
    bif (true && decide ((0 : Int) ≤ (0 : Int)) && decide ((0 : Int) < (List.length (PV.els (PV.fld p1 3)) : Int))) then
      c64 (List.getD (PV.els (PV.fld p1 3)) ((0 : Int)).toNat PV.nil) fun p8 =>
      bif (true && decide ((0 : Int) ≤ (1 : Int)) && decide ((1 : Int) < (List.length (PV.els (PV.fld p1 3)) : Int))) then
        c64 (List.getD (PV.els (PV.fld p1 3)) ((1 : Int)).toNat PV.nil) fun p9 =>
        c94 p8 p9 fun p10 =>
        ret0 p10
      else none
    else none
  else bif (decide ((PV.num (PV.fld p1 0)) = (5 : Int))) then
    bif (true && decide ((0 : Int) ≤ (0 : Int)) && decide ((0 : Int) < (List.length (PV.els (PV.fld p1 3)) : Int))) then
      c64 (List.getD (PV.els (PV.fld p1 3)) ((0 : Int)).toNat PV.nil) fun p11 =>
      ret0 p11
    else none
  else bif (decide ((PV.num (PV.fld p1 0)) = (6 : Int))) then
    bif (true && decide ((0 : Int) ≤ (0 : Int)) && decide ((0 : Int) < (List.length (PV.els (PV.fld p1 3)) : Int))) then
      c64 (List.getD (PV.els (PV.fld p1 3)) ((0 : Int)).toNat PV.nil) fun p12 =>
      ret0 p12
    else none
  else bif (decide ((PV.num (PV.fld p1 0)) = (7 : Int))) then
    bif (true && decide ((0 : Int) ≤ (0 : Int)) && decide ((0 : Int) < (List.length (PV.els (PV.fld p1 3)) : Int))) then
      c64 (List.getD (PV.els (PV.fld p1 3)) ((0 : Int)).toNat PV.nil) fun p13 =>
      ret0 p13
    else none
  else ret0 (PV.agg [(PV.int 0), (PV.int 0), (PV.int 0), (PV.int 0)])

theorem f64_e_mem (k : Nat) (c64 : PV → (PV → R) → R) (c65 : PV → (Bool → R) → R) (c93 : PV → (Bool → R) → R) (c94 : PV → PV → (PV → R) → R) (retF : PV → R) (p1 : PV) : exec (f64_E k c64 c65 c93 c94) f64_code (endK (f64_E k c64 c65 c93 c94) Try.f64 [] f64_un retF) ⟨[.val 27 p1, .undef, .undef, .undef, .undef, .undef, .undef, .undef, .undef, .undef, .undef, .undef, .undef, .undef, .undef, .undef, .undef, .undef, .undef, .undef, .undef, .undef, .undef, .undef, .undef, .undef, .undef, .undef, .undef, .undef, .undef, .undef, .undef, .undef, .undef, .undef, .undef, .undef, .undef, .undef, .undef, .undef, .undef, .undef, .undef, .undef, .undef, .undef, .undef, .undef, .undef, .undef, .undef, .undef, .undef, .undef, .undef, .undef, .undef, .undef, .undef, .undef, .undef, .undef, .undef, .undef, .undef, .undef], []⟩ = f64_e c64 c65 c93 c94 (fun y0 => retF y0) p1 := by kernel_rfl

noncomputable def f64_N (k : Nat) (c64 : PV → (PV → R) → R) (c65 : PV → (Bool → R) → R) (c93 : PV → (Bool → R) → R) (c94 : PV → PV → (PV → R) → R) (ret0 : PV → R) (p1 : PV) : R :=
  f64_e c64 c65 c93 c94 ret0 p1
theorem f64_eq (k : Nat) (c64 : PV → (PV → R) → R) (c65 : PV → (Bool → R) → R) (c93 : PV → (Bool → R) → R) (c94 : PV → PV → (PV → R) → R) (retF : PV → R) (p1 : PV) : exec (f64_E k c64 c65 c93 c94) f64_code (endK (f64_E k c64 c65 c93 c94) Try.f64 [] f64_un retF) ⟨[.val 27 p1, .undef, .undef, .undef, .undef, .undef, .undef, .undef, .undef, .undef, .undef, .undef, .undef, .undef, .undef, .undef, .undef, .undef, .undef, .undef, .undef, .undef, .undef, .undef, .undef, .undef, .undef, .undef, .undef, .undef, .undef, .undef, .undef, .undef, .undef, .undef, .undef, .undef, .undef, .undef, .undef, .undef, .undef, .undef, .undef, .undef, .undef, .undef, .undef, .undef, .undef, .undef, .undef, .undef, .undef, .undef, .undef, .undef, .undef, .undef, .undef, .undef, .undef, .undef, .undef, .undef, .undef, .undef], []⟩ = f64_N k c64 c65 c93 c94 (fun y0 => retF y0) p1 :=
  (f64_e_mem k c64 c65 c93 c94 retF p1)

noncomputable def G64 : Nat → PV → (PV → R) → R
  | 0, _, _ => none
  | k + 1, p1, ret0 => f64_N k (G64 k) (G65 k) (G93 k) (G94 k) ret0 p1
theorem S64 : ∀ k, Snd Try.prog 64 f64_I f64_O (fun x ret => G64 k x (fun y0 => ret y0))
  | 0 => snd_none
  | k + 1 => snd_step (E := f64_E k (G64 k) (G65 k) (G93 k) (G94 k)) rfl laidOut noNums (orc_ok (S64 k).o f64_D_ok (orc_ok (S65 k).o f65_D_ok (orc_ok (S93 k).o f93_D_ok (orc_ok (S94 k).o f94_D_ok orc0_ok)))) (f := 64) (fn := Try.f64) (code := f64_code) Try.func64 (by kernel_rfl) (drawsOk_of laidOut (orc_ok (S64 k).o f64_D_ok (orc_ok (S65 k).o f65_D_ok (orc_ok (S93 k).o f93_D_ok (orc_ok (S94 k).o f94_D_ok orc0_ok)))) mixed (by kernel_rfl)) f64_un f64_un_ok [] (fun _ => rfl)
      (fun x ret => f64_eq k (G64 k) (G65 k) (G93 k) (G94 k) ret x)

/- catchpole/lang.First -/
noncomputable def f30_I : PV → List SV × Obs := fun x => ([.val 27 x], [])
noncomputable def f30_D : List SV → Obs → Option (PV)
  | [.val 27 p1], [] => some p1
  | _, _ => none
theorem f30_D_ok (args : List SV) (B : Obs) (x : PV) (h : f30_D args B = some x) : f30_I x = (args, B) := by
  unfold f30_D at h
  split at h
  · injection h with h; subst h; rfl
  · cases h
noncomputable def f30_O : PV → Out := (fun y => ([.val 24 y], []))
noncomputable def f30_un : Out → Option (PV)
  | ([.val 24 y0], []) => some y0
  | _ => none
theorem f30_un_ok (o : Out) (y : PV) (h : f30_un o = some y) : o = f30_O y := by
  unfold f30_un at h
  split at h
  · injection h with h; subst h; rfl
  · cases h
noncomputable def f30_msk : Nat → Option (List Nat) := fun key =>  none
noncomputable def f30_C (c28 : PV → (Bool → R) → R) (c64 : PV → (PV → R) → R) : Oracle := orc 28 f28_D f28_O (fun x ret => c28 x (fun y0 => ret y0)) <| orc 64 f64_D f64_O (fun x ret => c64 x (fun y0 => ret y0)) <| orc0
noncomputable def f30_E (k : Nat) (c28 : PV → (Bool → R) → R) (c64 : PV → (PV → R) → R) : Env := { P := Try.prog, nilOwn := fun d => false, fldOwn := fun d i => false, ownPar := ownPars, ownRet := false, mask := f30_msk, fuel := k, C := f30_C c28 c64 }
noncomputable def f30_code : Code := Try.f30.body.getD .skip
noncomputable def f30_e (c28 : PV → (Bool → R) → R) (c64 : PV → (PV → R) → R) (ret0 : PV → R) (p1 : PV) : R :=
  c28 p1 fun b2 =>
  bif (!b2) then
    ret0 (PV.agg [(PV.int 0), (PV.int 0), (PV.int 0), (PV.int 0)])
  else c64 p1 fun p3 =>
  ret0 p3

theorem f30_e_mem (k : Nat) (c28 : PV → (Bool → R) → R) (c64 : PV → (PV → R) → R) (retF : PV → R) (p1 : PV) : exec (f30_E k c28 c64) f30_code (endK (f30_E k c28 c64) Try.f30 [] f30_un retF) ⟨[.val 27 p1, .undef, .undef, .undef, .undef, .undef, .undef, .undef, .undef], []⟩ = f30_e c28 c64 (fun y0 => retF y0) p1 := by kernel_rfl

noncomputable def f30_N (k : Nat) (c28 : PV → (Bool → R) → R) (c64 : PV → (PV → R) → R) (ret0 : PV → R) (p1 : PV) : R :=
  f30_e c28 c64 ret0 p1
theorem f30_eq (k : Nat) (c28 : PV → (Bool → R) → R) (c64 : PV → (PV → R) → R) (retF : PV → R) (p1 : PV) : exec (f30_E k c28 c64) f30_code (endK (f30_E k c28 c64) Try.f30 [] f30_un retF) ⟨[.val 27 p1, .undef, .undef, .undef, .undef, .undef, .undef, .undef, .undef], []⟩ = f30_N k c28 c64 (fun y0 => retF y0) p1 :=
  (f30_e_mem k c28 c64 retF p1)

noncomputable def G30 : Nat → PV → (PV → R) → R
  | 0, _, _ => none
  | k + 1, p1, ret0 => f30_N k (G28 k) (G64 k) ret0 p1
theorem S30 : ∀ k, Snd Try.prog 30 f30_I f30_O (fun x ret => G30 k x (fun y0 => ret y0))
  | 0 => snd_none
  | k + 1 => snd_step (E := f30_E k (G28 k) (G64 k)) rfl laidOut noNums (orc_ok (S28 k).o f28_D_ok (orc_ok (S64 k).o f64_D_ok orc0_ok)) (f := 30) (fn := Try.f30) (code := f30_code) Try.func30 (by kernel_rfl) (drawsOk_of laidOut (orc_ok (S28 k).o f28_D_ok (orc_ok (S64 k).o f64_D_ok orc0_ok)) mixed (by kernel_rfl)) f30_un f30_un_ok [] (fun _ => rfl)
      (fun x ret => f30_eq k (G28 k) (G64 k) ret x)

/- catchpole/catchpolelaw16.DerivFirst -/
noncomputable def f6_I : PV × Int → List SV × Obs := fun x => ([.val 27 x.1, .int .u8 x.2], [])
noncomputable def f6_D : List SV → Obs → Option (PV × Int)
  | [.val 27 p1, .int .u8 n2], [] => some (p1, n2)
  | _, _ => none
theorem f6_D_ok (args : List SV) (B : Obs) (x : PV × Int) (h : f6_D args B = some x) : f6_I x = (args, B) := by
  unfold f6_D at h
  split at h
  · injection h with h; subst h; rfl
  · cases h
noncomputable def f6_O : Bool → Out := (fun y => ([.bool y], []))
noncomputable def f6_un : Out → Option (Bool)
  | ([.bool y0], []) => some y0
  | _ => none
theorem f6_un_ok (o : Out) (y : Bool) (h : f6_un o = some y) : o = f6_O y := by
  unfold f6_un at h
  split at h
  · injection h with h; subst h; rfl
  · cases h
noncomputable def f6_msk : Nat → Option (List Nat) := fun key =>  none
noncomputable def f6_C (c14 : (Bool → R) → R) (c15 : PV → Int → (Bool → R) → R) (c16 : PV → (Int → R) → R) (c27 : PV → Int → (PV → Int → R) → R) (c28 : PV → (Bool → R) → R) (c30 : PV → (PV → R) → R) (c31 : PV → Int → (Bool → R) → R) (c32 : PV → (Bool → R) → R) (c33 : PV → (PV → R) → R) : Oracle := orc 14 f14_D f14_O (fun x ret => c14 (fun y0 => ret y0)) <| orc 15 f15_D f15_O (fun x ret => c15 x.1 x.2 (fun y0 => ret y0)) <| orc 16 f16_D f16_O (fun x ret => c16 x (fun y0 => ret y0)) <| orc 27 f27_D f27_O (fun x ret => c27 x.1 x.2 (fun y0 y1 => ret (y0, y1))) <| orc 28 f28_D f28_O (fun x ret => c28 x (fun y0 => ret y0)) <| orc 30 f30_D f30_O (fun x ret => c30 x (fun y0 => ret y0)) <| orc 31 f31_D f31_O (fun x ret => c31 x.1 x.2 (fun y0 => ret y0)) <| orc 32 f32_D f32_O (fun x ret => c32 x (fun y0 => ret y0)) <| orc 33 f33_D f33_O (fun x ret => c33 x (fun y0 => ret y0)) <| orc0
noncomputable def f6_E (k : Nat) (c14 : (Bool → R) → R) (c15 : PV → Int → (Bool → R) → R) (c16 : PV → (Int → R) → R) (c27 : PV → Int → (PV → Int → R) → R) (c28 : PV → (Bool → R) → R) (c30 : PV → (PV → R) → R) (c31 : PV → Int → (Bool → R) → R) (c32 : PV → (Bool → R) → R) (c33 : PV → (PV → R) → R) : Env := { P := Try.prog, nilOwn := fun d => false, fldOwn := fun d i => false, ownPar := ownPars, ownRet := false, mask := f6_msk, fuel := k, C := f6_C c14 c15 c16 c27 c28 c30 c31 c32 c33 }
noncomputable def f6_code : Code := Try.f6.body.getD .skip
noncomputable def f6_e (c14 : (Bool → R) → R) (c15 : PV → Int → (Bool → R) → R) (c16 : PV → (Int → R) → R) (c27 : PV → Int → (PV → Int → R) → R) (c28 : PV → (Bool → R) → R) (c30 : PV → (PV → R) → R) (c31 : PV → Int → (Bool → R) → R) (c32 : PV → (Bool → R) → R) (c33 : PV → (PV → R) → R) (ret0 : Bool → R) (p1 : PV) (n2 : Int) : R :=
  c14 fun b3 =>
  bif (!b3) then
    ret0 false
  else c15 p1 60 fun b4 =>
  bif (b4 == false) then
    c16 p1 fun n5 =>
    bif ((decide ((100 : Int) < n5)) == false) then
      c28 p1 fun b6 =>
      bif (!b6) then
        ret0 true
      else c27 p1 n2 fun p7 n8 =>
      bif (!(decide (n8 = (0 : Int)))) then
        ret0 (decide (n8 = (4 : Int)))
      else c30 p1 fun p9 =>
      c31 p9 n2 fun b10 =>
      c32 p7 fun b11 =>
      bif (b11 == false) then
        c30 p7 fun p12 =>
        c33 (PV.list []) fun p13 =>
        ret0 (b10 == (!(PV.beq p12 p13)))
      else ret0 (b10 == true)
    else ret0 true
  else ret0 true

theorem f6_e_mem (k : Nat) (c14 : (Bool → R) → R) (c15 : PV → Int → (Bool → R) → R) (c16 : PV → (Int → R) → R) (c27 : PV → Int → (PV → Int → R) → R) (c28 : PV → (Bool → R) → R) (c30 : PV → (PV → R) → R) (c31 : PV → Int → (Bool → R) → R) (c32 : PV → (Bool → R) → R) (c33 : PV → (PV → R) → R) (retF : Bool → R) (p1 : PV) (n2 : Int) : exec (f6_E k c14 c15 c16 c27 c28 c30 c31 c32 c33) f6_code (endK (f6_E k c14 c15 c16 c27 c28 c30 c31 c32 c33) Try.f6 [] f6_un retF) ⟨[.val 27 p1, .int .u8 n2, .undef, .undef, .undef, .undef, .undef, .undef, .undef, .undef, .undef, .undef, .undef, .undef, .undef, .undef, .undef, .undef, .undef, .undef, .undef, .undef, .undef, .undef, .undef, .undef, .undef, .undef, .undef, .undef, .undef, .undef, .undef, .undef, .undef, .undef, .undef, .undef, .undef, .undef, .undef, .undef, .undef, .undef], []⟩ = f6_e c14 c15 c16 c27 c28 c30 c31 c32 c33 (fun y0 => retF y0) p1 n2 := by kernel_rfl

noncomputable def f6_N (k : Nat) (c14 : (Bool → R) → R) (c15 : PV → Int → (Bool → R) → R) (c16 : PV → (Int → R) → R) (c27 : PV → Int → (PV → Int → R) → R) (c28 : PV → (Bool → R) → R) (c30 : PV → (PV → R) → R) (c31 : PV → Int → (Bool → R) → R) (c32 : PV → (Bool → R) → R) (c33 : PV → (PV → R) → R) (ret0 : Bool → R) (p1 : PV) (n2 : Int) : R :=
  f6_e c14 c15 c16 c27 c28 c30 c31 c32 c33 ret0 p1 n2
theorem f6_eq (k : Nat) (c14 : (Bool → R) → R) (c15 : PV → Int → (Bool → R) → R) (c16 : PV → (Int → R) → R) (c27 : PV → Int → (PV → Int → R) → R) (c28 : PV → (Bool → R) → R) (c30 : PV → (PV → R) → R) (c31 : PV → Int → (Bool → R) → R) (c32 : PV → (Bool → R) → R) (c33 : PV → (PV → R) → R) (retF : Bool → R) (p1 : PV) (n2 : Int) : exec (f6_E k c14 c15 c16 c27 c28 c30 c31 c32 c33) f6_code (endK (f6_E k c14 c15 c16 c27 c28 c30 c31 c32 c33) Try.f6 [] f6_un retF) ⟨[.val 27 p1, .int .u8 n2, .undef, .undef, .undef, .undef, .undef, .undef, .undef, .undef, .undef, .undef, .undef, .undef, .undef, .undef, .undef, .undef, .undef, .undef, .undef, .undef, .undef, .undef, .undef, .undef, .undef, .undef, .undef, .undef, .undef, .undef, .undef, .undef, .undef, .undef, .undef, .undef, .undef, .undef, .undef, .undef, .undef, .undef], []⟩ = f6_N k c14 c15 c16 c27 c28 c30 c31 c32 c33 (fun y0 => retF y0) p1 n2 :=
  (f6_e_mem k c14 c15 c16 c27 c28 c30 c31 c32 c33 retF p1 n2)

noncomputable def G6 : Nat → PV → Int → (Bool → R) → R
  | 0, _, _, _ => none
  | k + 1, p1, n2, ret0 => f6_N k (G14 k) (G15 k) (G16 k) (G27 k) (G28 k) (G30 k) (G31 k) (G32 k) (G33 k) ret0 p1 n2
theorem S6 : ∀ k, Snd Try.prog 6 f6_I f6_O (fun x ret => G6 k x.1 x.2 (fun y0 => ret y0))
  | 0 => snd_none
  | k + 1 => snd_step (E := f6_E k (G14 k) (G15 k) (G16 k) (G27 k) (G28 k) (G30 k) (G31 k) (G32 k) (G33 k)) rfl laidOut noNums (orc_ok (S14 k).o f14_D_ok (orc_ok (S15 k).o f15_D_ok (orc_ok (S16 k).o f16_D_ok (orc_ok (S27 k).o f27_D_ok (orc_ok (S28 k).o f28_D_ok (orc_ok (S30 k).o f30_D_ok (orc_ok (S31 k).o f31_D_ok (orc_ok (S32 k).o f32_D_ok (orc_ok (S33 k).o f33_D_ok orc0_ok))))))))) (f := 6) (fn := Try.f6) (code := f6_code) Try.func6 (by kernel_rfl) (drawsOk_of laidOut (orc_ok (S14 k).o f14_D_ok (orc_ok (S15 k).o f15_D_ok (orc_ok (S16 k).o f16_D_ok (orc_ok (S27 k).o f27_D_ok (orc_ok (S28 k).o f28_D_ok (orc_ok (S30 k).o f30_D_ok (orc_ok (S31 k).o f31_D_ok (orc_ok (S32 k).o f32_D_ok (orc_ok (S33 k).o f33_D_ok orc0_ok))))))))) mixed (by kernel_rfl)) f6_un f6_un_ok [] (fun _ => rfl)
      (fun x ret => f6_eq k (G14 k) (G15 k) (G16 k) (G27 k) (G28 k) (G30 k) (G31 k) (G32 k) (G33 k) ret x.1 x.2)

end Go.Proofs.Ythdonefmfgnilaa
