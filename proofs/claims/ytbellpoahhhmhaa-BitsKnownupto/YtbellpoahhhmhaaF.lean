/- Functions of the program as Lean functions, each tied to the program by the kernel: catchpolelaw11.BitsKnown -/
import Derived.Test.YtbellpoahhhmhaaXC
import Derived.Test.YtbellpoahhhmhaaProg
import Derived.KernelRfl
import Derived.Test.YtbellpoahhhmhaaBld
set_option linter.unusedVariables false
set_option maxRecDepth 100000
namespace Go.Proofs.Ytbellpoahhhmhaa
open Go Go.X
theorem laidOut : laidOutB Try.prog = true := by kernel_rfl
theorem noNums : noNum Try.prog = true := by kernel_rfl
theorem mixed : Try.prog.follows .mixedOrders = true := by kernel_rfl
noncomputable def ownPars : FuncId → Nat → Bool := fun f i => (f == 63 && i == 0)

/- catchpole/byteset.Of -/
noncomputable def f64_I : PV → List SV × Obs := fun x => ([.val 43 x], [])
noncomputable def f64_D : List SV → Obs → Option (PV)
  | [.val 43 p1], [] => some p1
  | _, _ => none
theorem f64_D_ok (args : List SV) (B : Obs) (x : PV) (h : f64_D args B = some x) : f64_I x = (args, B) := by
  unfold f64_D at h
  split at h
  · injection h with h; subst h; rfl
  · cases h
noncomputable def f64_O : PV → Out := (fun y => ([.val 24 y], []))
noncomputable def f64_un : Out → Option (PV)
  | ([.val 24 y0], []) => some y0
  | _ => none
theorem f64_un_ok (o : Out) (y : PV) (h : f64_un o = some y) : o = f64_O y := by
  unfold f64_un at h
  split at h
  · injection h with h; subst h; rfl
  · cases h
noncomputable def f64_msk : Nat → Option (List Nat) := fun key => bif key == 9 then some [2, 3, 6, 7, 8] else none
noncomputable def f64_C : Oracle := orc0
noncomputable def f64_E (k : Nat) : Env := { P := Try.prog, nilOwn := fun d => false, fldOwn := fun d i => false, ownPar := ownPars, ownRet := false, mask := f64_msk, fuel := k, C := f64_C }
noncomputable def f64_code : Code := Try.f64.body.getD .skip
noncomputable def f64_cw1 : Code := subC f64_code [1, 1, 0, 1, 0, 0]
noncomputable def f64_hw1_0 (p1 : PV) (n5 : Int) (p6 : PV) : St := ⟨[.dead, .dead, .ptr 2 [], .ptr 3 [], .dead, .dead, .val 43 p1, .int .i64 (List.length (PV.els p1) : Int), .int .i64 n5, .dead, .dead, .dead, .dead, .dead, .dead, .dead, .dead, .dead, .dead, .dead, .dead, .dead, .dead], [(2, .box 24 (.val 24 (PV.agg [(PV.int 0), (PV.int 0), (PV.int 0), (PV.int 0)]))), (3, .box 24 (.val 24 p6))]⟩
noncomputable def f64_w1A (k : Nat) (retF : PV → R) (p1 : PV) (n5 : Int) (p6 : PV) : R := loopM (f64_E k) f64_cw1 (kont (f64_E k) f64_code [1, 1, 0, 1, 0] (endK (f64_E k) Try.f64 [] f64_un retF)) k (f64_hw1_0 p1 n5 p6)
noncomputable def f64_w1b0 (ret0 : PV → R) (next_w1_0 : Int → PV → R) (p1 : PV) (n5 : Int) (p6 : PV) : R :=
  bif (decide (n5 < (List.length (PV.els p1) : Int))) then
    bif (true && decide ((0 : Int) ≤ n5) && decide (n5 < (List.length (PV.els p1) : Int))) then
      bif (true && decide ((0 : Int) ≤ (IntKind.wrap .u8 (Int.tdiv (PV.num (List.getD (PV.els p1) (n5).toNat PV.nil)) 64))) && decide ((IntKind.wrap .u8 (Int.tdiv (PV.num (List.getD (PV.els p1) (n5).toNat PV.nil)) 64)) < 4)) then
        let n7 : Int := (PV.num (PV.fld p6 ((IntKind.wrap .u8 (Int.tdiv (PV.num (List.getD (PV.els p1) (n5).toNat PV.nil)) 64))).toNat))
        bif (decide ((0 : Int) ≤ (Int.tmod (PV.num (List.getD (PV.els p1) (n5).toNat PV.nil)) 64))) then
          let n8 : Int := (IntKind.wrap .u64 ((1 : Int) * 2 ^ (min ((Int.tmod (PV.num (List.getD (PV.els p1) (n5).toNat PV.nil)) 64)).toNat 64)))
          bif (true && decide ((0 : Int) ≤ (IntKind.wrap .u8 (Int.tdiv (PV.num (List.getD (PV.els p1) (n5).toNat PV.nil)) 64))) && decide ((IntKind.wrap .u8 (Int.tdiv (PV.num (List.getD (PV.els p1) (n5).toNat PV.nil)) 64)) < 4)) then
            let p9 : PV := (PV.agg (List.set (PV.flds p6) ((IntKind.wrap .u8 (Int.tdiv (PV.num (List.getD (PV.els p1) (n5).toNat PV.nil)) 64))).toNat (PV.int (intBit .or .u64 n7 n8))))
            next_w1_0 (IntKind.wrap .i64 (n5 + (1 : Int))) p9
          else none
        else none
      else none
    else none
  else ret0 p6

theorem f64_w1b0_mem (k : Nat) (retF : PV → R) (NX_w1 : St → R) (p1 : PV) (n5 : Int) (p6 : PV) : exec (f64_E k) f64_cw1 (purgeK (f64_E k) f64_cw1 (loopK NX_w1 (kont (f64_E k) f64_code [1, 1, 0, 1, 0] (endK (f64_E k) Try.f64 [] f64_un retF)))) (f64_hw1_0 p1 n5 p6) = f64_w1b0 (fun y0 => retF y0) (fun n5 p6 => NX_w1 (f64_hw1_0 p1 n5 p6)) p1 n5 p6 := by kernel_rfl

noncomputable def f64_w1b0N (k : Nat) (ret0 : PV → R) (next_w1_0 : Int → PV → R) (p1 : PV) (n5 : Int) (p6 : PV) : R :=
  f64_w1b0 ret0 next_w1_0 p1 n5 p6
theorem f64_w1b0_eq (k : Nat) (retF : PV → R) (NX_w1 : St → R) (p1 : PV) (n5 : Int) (p6 : PV) : exec (f64_E k) f64_cw1 (purgeK (f64_E k) f64_cw1 (loopK NX_w1 (kont (f64_E k) f64_code [1, 1, 0, 1, 0] (endK (f64_E k) Try.f64 [] f64_un retF)))) (f64_hw1_0 p1 n5 p6) = f64_w1b0N k (fun y0 => retF y0) (fun n5 p6 => NX_w1 (f64_hw1_0 p1 n5 p6)) p1 n5 p6 :=
  (f64_w1b0_mem k retF NX_w1 p1 n5 p6)

noncomputable def f64_w1B (k : Nat) (ret0 : PV → R) (p1 : PV) (nx : Int × PV → R) : Int × PV → R := (fun s => f64_w1b0N k ret0 (fun n5 p6 => nx (n5, p6)) p1 s.1 s.2)
noncomputable def f64_w1N (k : Nat) (ret0 : PV → R) (p1 : PV) (n5 : Int) (p6 : PV) : R := loopR (f64_w1B k ret0 p1) k (n5, p6)
theorem f64_w1_eq (k : Nat) (retF : PV → R) (p1 : PV) (n5 : Int) (p6 : PV) : f64_w1A k retF p1 n5 p6 = f64_w1N k (fun y0 => retF y0) p1 n5 p6 :=
  Eq.mp (by kernel_rfl) (loop_sim (E := (f64_E k)) (c := f64_cw1) (K := (kont (f64_E k) f64_code [1, 1, 0, 1, 0] (endK (f64_E k) Try.f64 [] f64_un retF))) (S := Int × PV) (fun s => f64_hw1_0 p1 s.1 s.2) (f64_w1B k (fun y0 => retF y0) p1) (fun NX s => by
    exact Eq.mp (by kernel_rfl) (f64_w1b0_eq k retF NX p1 s.1 s.2)) k (n5, p6))

noncomputable def f64_e (ret0 : PV → R) (w1 : Int → PV → R) (p1 : PV) : R :=
  w1 0 (PV.agg [(PV.int 0), (PV.int 0), (PV.int 0), (PV.int 0)])

theorem f64_e_mem (k : Nat) (retF : PV → R) (p1 : PV) : exec (f64_E k) f64_code (endK (f64_E k) Try.f64 [] f64_un retF) ⟨[.val 43 p1, .undef, .undef, .undef, .undef, .undef, .undef, .undef, .undef, .undef, .undef, .undef, .undef, .undef, .undef, .undef, .undef, .undef, .undef, .undef, .undef, .undef, .undef], []⟩ = f64_e (fun y0 => retF y0) (fun n5 p6 => f64_w1A k retF p1 n5 p6) p1 := by kernel_rfl

noncomputable def f64_N (k : Nat) (ret0 : PV → R) (p1 : PV) : R :=
  f64_e ret0 (fun n5 p6 => f64_w1N k ret0 p1 n5 p6) p1
theorem f64_eq (k : Nat) (retF : PV → R) (p1 : PV) : exec (f64_E k) f64_code (endK (f64_E k) Try.f64 [] f64_un retF) ⟨[.val 43 p1, .undef, .undef, .undef, .undef, .undef, .undef, .undef, .undef, .undef, .undef, .undef, .undef, .undef, .undef, .undef, .undef, .undef, .undef, .undef, .undef, .undef, .undef], []⟩ = f64_N k (fun y0 => retF y0) p1 :=
  (f64_e_mem k retF p1).trans (by rw [show (fun n5 p6 => f64_w1A k retF p1 n5 p6) = (fun n5 p6 => f64_w1N k (fun y0 => retF y0) p1 n5 p6) from funext fun n5 => funext fun p6 => f64_w1_eq k retF p1 n5 p6]; rfl)

noncomputable def G64 : Nat → PV → (PV → R) → R
  | 0, _, _ => none
  | k + 1, p1, ret0 => f64_N k  ret0 p1
theorem S64 : ∀ k, Snd Try.prog 64 f64_I f64_O (fun x ret => G64 k x (fun y0 => ret y0))
  | 0 => snd_none
  | k + 1 => snd_step (E := f64_E k ) rfl laidOut noNums orc0_ok (f := 64) (fn := Try.f64) (code := f64_code) Try.func64 (by kernel_rfl) (drawsOk_of laidOut orc0_ok mixed (by kernel_rfl)) f64_un f64_un_ok [] (fun _ => rfl)
      (fun x ret => f64_eq k  ret x)

/- catchpole/catchpolelaw11.ch -/
noncomputable def f51_I : PV → List SV × Obs := fun x => ([.val 43 x], [])
noncomputable def f51_D : List SV → Obs → Option (PV)
  | [.val 43 p1], [] => some p1
  | _, _ => none
theorem f51_D_ok (args : List SV) (B : Obs) (x : PV) (h : f51_D args B = some x) : f51_I x = (args, B) := by
  unfold f51_D at h
  split at h
  · injection h with h; subst h; rfl
  · cases h
noncomputable def f51_O : PV → Out := (fun y => ([.val 27 y], []))
noncomputable def f51_un : Out → Option (PV)
  | ([.val 27 y0], []) => some y0
  | _ => none
theorem f51_un_ok (o : Out) (y : PV) (h : f51_un o = some y) : o = f51_O y := by
  unfold f51_un at h
  split at h
  · injection h with h; subst h; rfl
  · cases h
noncomputable def f51_msk : Nat → Option (List Nat) := fun key =>  none
noncomputable def f51_C (c64 : PV → (PV → R) → R) : Oracle := orc 64 f64_D f64_O (fun x ret => c64 x (fun y0 => ret y0)) <| orc0
noncomputable def f51_E (k : Nat) (c64 : PV → (PV → R) → R) : Env := { P := Try.prog, nilOwn := fun d => false, fldOwn := fun d i => false, ownPar := ownPars, ownRet := false, mask := f51_msk, fuel := k, C := f51_C c64 }
noncomputable def f51_code : Code := Try.f51.body.getD .skip
noncomputable def f51_e (c64 : PV → (PV → R) → R) (ret0 : PV → R) (p1 : PV) : R :=
  c64 p1 fun p2 =>
  ret0 (PV.agg [(PV.int 2), p2, (PV.int 0), (PV.list [])])

theorem f51_e_mem (k : Nat) (c64 : PV → (PV → R) → R) (retF : PV → R) (p1 : PV) : exec (f51_E k c64) f51_code (endK (f51_E k c64) Try.f51 [] f51_un retF) ⟨[.val 43 p1, .undef, .undef, .undef, .undef, .undef], []⟩ = f51_e c64 (fun y0 => retF y0) p1 := by kernel_rfl

noncomputable def f51_N (k : Nat) (c64 : PV → (PV → R) → R) (ret0 : PV → R) (p1 : PV) : R :=
  f51_e c64 ret0 p1
theorem f51_eq (k : Nat) (c64 : PV → (PV → R) → R) (retF : PV → R) (p1 : PV) : exec (f51_E k c64) f51_code (endK (f51_E k c64) Try.f51 [] f51_un retF) ⟨[.val 43 p1, .undef, .undef, .undef, .undef, .undef], []⟩ = f51_N k c64 (fun y0 => retF y0) p1 :=
  (f51_e_mem k c64 retF p1)

noncomputable def G51 : Nat → PV → (PV → R) → R
  | 0, _, _ => none
  | k + 1, p1, ret0 => f51_N k (G64 k) ret0 p1
theorem S51 : ∀ k, Snd Try.prog 51 f51_I f51_O (fun x ret => G51 k x (fun y0 => ret y0))
  | 0 => snd_none
  | k + 1 => snd_step (E := f51_E k (G64 k)) rfl laidOut noNums (orc_ok (S64 k).o f64_D_ok orc0_ok) (f := 51) (fn := Try.f51) (code := f51_code) Try.func51 (by kernel_rfl) (drawsOk_of laidOut (orc_ok (S64 k).o f64_D_ok orc0_ok) mixed (by kernel_rfl)) f51_un f51_un_ok [] (fun _ => rfl)
      (fun x ret => f51_eq k (G64 k) ret x)

/- catchpole/catchpolelaw11.alt -/
noncomputable def f50_I : PV × PV → List SV × Obs := fun x => ([.val 27 x.1, .val 27 x.2], [])
noncomputable def f50_D : List SV → Obs → Option (PV × PV)
  | [.val 27 p1, .val 27 p2], [] => some (p1, p2)
  | _, _ => none
theorem f50_D_ok (args : List SV) (B : Obs) (x : PV × PV) (h : f50_D args B = some x) : f50_I x = (args, B) := by
  unfold f50_D at h
  split at h
  · injection h with h; subst h; rfl
  · cases h
noncomputable def f50_O : PV → Out := (fun y => ([.val 27 y], []))
noncomputable def f50_un : Out → Option (PV)
  | ([.val 27 y0], []) => some y0
  | _ => none
theorem f50_un_ok (o : Out) (y : PV) (h : f50_un o = some y) : o = f50_O y := by
  unfold f50_un at h
  split at h
  · injection h with h; subst h; rfl
  · cases h
noncomputable def f50_msk : Nat → Option (List Nat) := fun key =>  none
noncomputable def f50_C : Oracle := orc0
noncomputable def f50_E (k : Nat) : Env := { P := Try.prog, nilOwn := fun d => false, fldOwn := fun d i => false, ownPar := ownPars, ownRet := false, mask := f50_msk, fuel := k, C := f50_C }
noncomputable def f50_code : Code := Try.f50.body.getD .skip
noncomputable def f50_e (ret0 : PV → R) (p1 : PV) (p2 : PV) : R :=
  ret0 (PV.agg [(PV.int 4), (PV.agg [(PV.int 0), (PV.int 0), (PV.int 0), (PV.int 0)]), (PV.int 0), (PV.list [p1, p2])])

theorem f50_e_mem (k : Nat) (retF : PV → R) (p1 : PV) (p2 : PV) : exec (f50_E k) f50_code (endK (f50_E k) Try.f50 [] f50_un retF) ⟨[.val 27 p1, .val 27 p2, .undef, .undef, .undef, .undef, .undef, .undef, .undef], []⟩ = f50_e (fun y0 => retF y0) p1 p2 := by kernel_rfl

noncomputable def f50_N (k : Nat) (ret0 : PV → R) (p1 : PV) (p2 : PV) : R :=
  f50_e ret0 p1 p2
theorem f50_eq (k : Nat) (retF : PV → R) (p1 : PV) (p2 : PV) : exec (f50_E k) f50_code (endK (f50_E k) Try.f50 [] f50_un retF) ⟨[.val 27 p1, .val 27 p2, .undef, .undef, .undef, .undef, .undef, .undef, .undef], []⟩ = f50_N k (fun y0 => retF y0) p1 p2 :=
  (f50_e_mem k retF p1 p2)

noncomputable def G50 : Nat → PV → PV → (PV → R) → R
  | 0, _, _, _ => none
  | k + 1, p1, p2, ret0 => f50_N k  ret0 p1 p2
theorem S50 : ∀ k, Snd Try.prog 50 f50_I f50_O (fun x ret => G50 k x.1 x.2 (fun y0 => ret y0))
  | 0 => snd_none
  | k + 1 => snd_step (E := f50_E k ) rfl laidOut noNums orc0_ok (f := 50) (fn := Try.f50) (code := f50_code) Try.func50 (by kernel_rfl) (drawsOk_of laidOut orc0_ok mixed (by kernel_rfl)) f50_un f50_un_ok [] (fun _ => rfl)
      (fun x ret => f50_eq k  ret x.1 x.2)

/- catchpole/core.Size -/
noncomputable def f56_I : PV → List SV × Obs := fun x => ([.val 27 x], [])
noncomputable def f56_D : List SV → Obs → Option (PV)
  | [.val 27 p1], [] => some p1
  | _, _ => none
theorem f56_D_ok (args : List SV) (B : Obs) (x : PV) (h : f56_D args B = some x) : f56_I x = (args, B) := by
  unfold f56_D at h
  split at h
  · injection h with h; subst h; rfl
  · cases h
noncomputable def f56_O : Int → Out := (fun y => ([.int .i64 y], []))
noncomputable def f56_un : Out → Option (Int)
  | ([.int .i64 y0], []) => some y0
  | _ => none
theorem f56_un_ok (o : Out) (y : Int) (h : f56_un o = some y) : o = f56_O y := by
  unfold f56_un at h
  split at h
  · injection h with h; subst h; rfl
  · cases h
noncomputable def f56_msk : Nat → Option (List Nat) := fun key => bif key == 9 then some [3, 7, 8, 9] else none
noncomputable def f56_C (c56 : PV → (Int → R) → R) : Oracle := orc 56 f56_D f56_O (fun x ret => c56 x (fun y0 => ret y0)) <| orc0
noncomputable def f56_E (k : Nat) (c56 : PV → (Int → R) → R) : Env := { P := Try.prog, nilOwn := fun d => false, fldOwn := fun d i => false, ownPar := ownPars, ownRet := false, mask := f56_msk, fuel := k, C := f56_C c56 }
noncomputable def f56_code : Code := Try.f56.body.getD .skip
noncomputable def f56_cw1 : Code := subC f56_code [1, 1, 0, 1, 0, 0]
noncomputable def f56_hw1_0 (p1 : PV) (n3 : Int) (n4 : Int) : St := ⟨[.dead, .dead, .dead, .int .i64 n3, .dead, .dead, .dead, .val 25 (PV.fld p1 3), .int .i64 (List.length (PV.els (PV.fld p1 3)) : Int), .int .i64 n4, .dead, .dead, .dead, .dead, .dead, .dead, .dead, .dead, .dead, .dead, .dead, .dead], []⟩
noncomputable def f56_w1A (k : Nat) (c56 : PV → (Int → R) → R) (retF : Int → R) (p1 : PV) (n3 : Int) (n4 : Int) : R := loopM (f56_E k c56) f56_cw1 (kont (f56_E k c56) f56_code [1, 1, 0, 1, 0] (endK (f56_E k c56) Try.f56 [] f56_un retF)) k (f56_hw1_0 p1 n3 n4)
noncomputable def f56_w1b0 (c56 : PV → (Int → R) → R) (ret0 : Int → R) (next_w1_0 : Int → Int → R) (p1 : PV) (n3 : Int) (n4 : Int) : R :=
  bif (decide (n4 < (List.length (PV.els (PV.fld p1 3)) : Int))) then
    bif (true && decide ((0 : Int) ≤ n4) && decide (n4 < (List.length (PV.els (PV.fld p1 3)) : Int))) then
      bif (decide ((100000 : Int) ≤ n3)) then
        ret0 (if (100000 : Int) < n3 then 100000 else n3)
      else c56 (List.getD (PV.els (PV.fld p1 3)) (n4).toNat PV.nil) fun n5 =>
      next_w1_0 (IntKind.wrap .i64 (n3 + n5)) (IntKind.wrap .i64 (n4 + (1 : Int)))
    else none
  else ret0 (if (100000 : Int) < n3 then 100000 else n3)

theorem f56_w1b0_mem (k : Nat) (c56 : PV → (Int → R) → R) (retF : Int → R) (NX_w1 : St → R) (p1 : PV) (n3 : Int) (n4 : Int) : exec (f56_E k c56) f56_cw1 (purgeK (f56_E k c56) f56_cw1 (loopK NX_w1 (kont (f56_E k c56) f56_code [1, 1, 0, 1, 0] (endK (f56_E k c56) Try.f56 [] f56_un retF)))) (f56_hw1_0 p1 n3 n4) = f56_w1b0 c56 (fun y0 => retF y0) (fun n3 n4 => NX_w1 (f56_hw1_0 p1 n3 n4)) p1 n3 n4 := by kernel_rfl

noncomputable def f56_w1b0N (k : Nat) (c56 : PV → (Int → R) → R) (ret0 : Int → R) (next_w1_0 : Int → Int → R) (p1 : PV) (n3 : Int) (n4 : Int) : R :=
  f56_w1b0 c56 ret0 next_w1_0 p1 n3 n4
theorem f56_w1b0_eq (k : Nat) (c56 : PV → (Int → R) → R) (retF : Int → R) (NX_w1 : St → R) (p1 : PV) (n3 : Int) (n4 : Int) : exec (f56_E k c56) f56_cw1 (purgeK (f56_E k c56) f56_cw1 (loopK NX_w1 (kont (f56_E k c56) f56_code [1, 1, 0, 1, 0] (endK (f56_E k c56) Try.f56 [] f56_un retF)))) (f56_hw1_0 p1 n3 n4) = f56_w1b0N k c56 (fun y0 => retF y0) (fun n3 n4 => NX_w1 (f56_hw1_0 p1 n3 n4)) p1 n3 n4 :=
  (f56_w1b0_mem k c56 retF NX_w1 p1 n3 n4)

noncomputable def f56_w1B (k : Nat) (c56 : PV → (Int → R) → R) (ret0 : Int → R) (p1 : PV) (nx : Int × Int → R) : Int × Int → R := (fun s => f56_w1b0N k c56 ret0 (fun n3 n4 => nx (n3, n4)) p1 s.1 s.2)
noncomputable def f56_w1N (k : Nat) (c56 : PV → (Int → R) → R) (ret0 : Int → R) (p1 : PV) (n3 : Int) (n4 : Int) : R := loopR (f56_w1B k c56 ret0 p1) k (n3, n4)
theorem f56_w1_eq (k : Nat) (c56 : PV → (Int → R) → R) (retF : Int → R) (p1 : PV) (n3 : Int) (n4 : Int) : f56_w1A k c56 retF p1 n3 n4 = f56_w1N k c56 (fun y0 => retF y0) p1 n3 n4 :=
  Eq.mp (by kernel_rfl) (loop_sim (E := (f56_E k c56)) (c := f56_cw1) (K := (kont (f56_E k c56) f56_code [1, 1, 0, 1, 0] (endK (f56_E k c56) Try.f56 [] f56_un retF))) (S := Int × Int) (fun s => f56_hw1_0 p1 s.1 s.2) (f56_w1B k c56 (fun y0 => retF y0) p1) (fun NX s => by
    exact Eq.mp (by kernel_rfl) (f56_w1b0_eq k c56 retF NX p1 s.1 s.2)) k (n3, n4))

noncomputable def f56_e (c56 : PV → (Int → R) → R) (ret0 : Int → R) (w1 : Int → Int → R) (p1 : PV) : R :=
  w1 1 0

theorem f56_e_mem (k : Nat) (c56 : PV → (Int → R) → R) (retF : Int → R) (p1 : PV) : exec (f56_E k c56) f56_code (endK (f56_E k c56) Try.f56 [] f56_un retF) ⟨[.val 27 p1, .undef, .undef, .undef, .undef, .undef, .undef, .undef, .undef, .undef, .undef, .undef, .undef, .undef, .undef, .undef, .undef, .undef, .undef, .undef, .undef, .undef], []⟩ = f56_e c56 (fun y0 => retF y0) (fun n3 n4 => f56_w1A k c56 retF p1 n3 n4) p1 := by kernel_rfl

noncomputable def f56_N (k : Nat) (c56 : PV → (Int → R) → R) (ret0 : Int → R) (p1 : PV) : R :=
  f56_e c56 ret0 (fun n3 n4 => f56_w1N k c56 ret0 p1 n3 n4) p1
theorem f56_eq (k : Nat) (c56 : PV → (Int → R) → R) (retF : Int → R) (p1 : PV) : exec (f56_E k c56) f56_code (endK (f56_E k c56) Try.f56 [] f56_un retF) ⟨[.val 27 p1, .undef, .undef, .undef, .undef, .undef, .undef, .undef, .undef, .undef, .undef, .undef, .undef, .undef, .undef, .undef, .undef, .undef, .undef, .undef, .undef, .undef], []⟩ = f56_N k c56 (fun y0 => retF y0) p1 :=
  (f56_e_mem k c56 retF p1).trans (by rw [show (fun n3 n4 => f56_w1A k c56 retF p1 n3 n4) = (fun n3 n4 => f56_w1N k c56 (fun y0 => retF y0) p1 n3 n4) from funext fun n3 => funext fun n4 => f56_w1_eq k c56 retF p1 n3 n4]; rfl)

noncomputable def G56 : Nat → PV → (Int → R) → R
  | 0, _, _ => none
  | k + 1, p1, ret0 => f56_N k (G56 k) ret0 p1
theorem S56 : ∀ k, Snd Try.prog 56 f56_I f56_O (fun x ret => G56 k x (fun y0 => ret y0))
  | 0 => snd_none
  | k + 1 => snd_step (E := f56_E k (G56 k)) rfl laidOut noNums (orc_ok (S56 k).o f56_D_ok orc0_ok) (f := 56) (fn := Try.f56) (code := f56_code) Try.func56 (by kernel_rfl) (drawsOk_of laidOut (orc_ok (S56 k).o f56_D_ok orc0_ok) mixed (by kernel_rfl)) f56_un f56_un_ok [] (fun _ => rfl)
      (fun x ret => f56_eq k (G56 k) ret x)

/- catchpole/core.kids -/
noncomputable def f75_I : Int → List SV × Obs := fun x => ([.int .i64 x], [])
noncomputable def f75_D : List SV → Obs → Option (Int)
  | [.int .i64 n1], [] => some n1
  | _, _ => none
theorem f75_D_ok (args : List SV) (B : Obs) (x : Int) (h : f75_D args B = some x) : f75_I x = (args, B) := by
  unfold f75_D at h
  split at h
  · injection h with h; subst h; rfl
  · cases h
noncomputable def f75_O : Int → Out := (fun y => ([.int .i64 y], []))
noncomputable def f75_un : Out → Option (Int)
  | ([.int .i64 y0], []) => some y0
  | _ => none
theorem f75_un_ok (o : Out) (y : Int) (h : f75_un o = some y) : o = f75_O y := by
  unfold f75_un at h
  split at h
  · injection h with h; subst h; rfl
  · cases h
noncomputable def f75_msk : Nat → Option (List Nat) := fun key =>  none
noncomputable def f75_C : Oracle := orc0
noncomputable def f75_E (k : Nat) : Env := { P := Try.prog, nilOwn := fun d => false, fldOwn := fun d i => false, ownPar := ownPars, ownRet := false, mask := f75_msk, fuel := k, C := f75_C }
noncomputable def f75_code : Code := Try.f75.body.getD .skip
noncomputable def f75_e (ret0 : Int → R) (n1 : Int) : R :=
  bif (decide (n1 = (0 : Int))) then
    ret0 0
  else bif (decide (n1 = (1 : Int))) then
    ret0 0
  else bif (decide (n1 = (2 : Int))) then
    ret0 0
  else bif (decide (n1 = (3 : Int))) then
    ret0 2
  else bif (decide (n1 = (4 : Int))) then
    ret0 2
  else bif (decide (n1 = (5 : Int))) then
    ret0 1
  else bif (decide (n1 = (6 : Int))) then
    ret0 1
  else bif (decide (n1 = (7 : Int))) then
    ret0 1
  else ret0 (-1)

theorem f75_e_mem (k : Nat) (retF : Int → R) (n1 : Int) : exec (f75_E k) f75_code (endK (f75_E k) Try.f75 [] f75_un retF) ⟨[.int .i64 n1, .undef, .undef, .undef, .undef, .undef, .undef, .undef, .undef, .undef, .undef, .undef, .undef, .undef, .undef], []⟩ = f75_e (fun y0 => retF y0) n1 := by kernel_rfl

noncomputable def f75_N (k : Nat) (ret0 : Int → R) (n1 : Int) : R :=
  f75_e ret0 n1
theorem f75_eq (k : Nat) (retF : Int → R) (n1 : Int) : exec (f75_E k) f75_code (endK (f75_E k) Try.f75 [] f75_un retF) ⟨[.int .i64 n1, .undef, .undef, .undef, .undef, .undef, .undef, .undef, .undef, .undef, .undef, .undef, .undef, .undef, .undef], []⟩ = f75_N k (fun y0 => retF y0) n1 :=
  (f75_e_mem k retF n1)

noncomputable def G75 : Nat → Int → (Int → R) → R
  | 0, _, _ => none
  | k + 1, n1, ret0 => f75_N k  ret0 n1
theorem S75 : ∀ k, Snd Try.prog 75 f75_I f75_O (fun x ret => G75 k x (fun y0 => ret y0))
  | 0 => snd_none
  | k + 1 => snd_step (E := f75_E k ) rfl laidOut noNums orc0_ok (f := 75) (fn := Try.f75) (code := f75_code) Try.func75 (by kernel_rfl) (drawsOk_of laidOut orc0_ok mixed (by kernel_rfl)) f75_un f75_un_ok [] (fun _ => rfl)
      (fun x ret => f75_eq k  ret x)

/- catchpole/core.good$1 -/
noncomputable def f77_I : PV × Int → List SV × Obs := fun x => ([.val 27 x.1, .ptr 4000000 []], [(4000000, .box 3 (.int .i64 x.2))])
noncomputable def f77_D : List SV → Obs → Option (PV × Int)
  | [.val 27 p1, .ptr 4000000 []], [(4000000, .box 3 (.int .i64 n2))] => some (p1, n2)
  | _, _ => none
theorem f77_D_ok (args : List SV) (B : Obs) (x : PV × Int) (h : f77_D args B = some x) : f77_I x = (args, B) := by
  unfold f77_D at h
  split at h
  · injection h with h; subst h; rfl
  · cases h
noncomputable def f77_O : Bool × Int → Out := (fun y => ([.bool y.1], [(4000000, .box 3 (.int .i64 y.2))]))
noncomputable def f77_un : Out → Option (Bool × Int)
  | ([.bool y0], [(4000000, .box 3 (.int .i64 y1))]) => some (y0, y1)
  | _ => none
theorem f77_un_ok (o : Out) (y : Bool × Int) (h : f77_un o = some y) : o = f77_O y := by
  unfold f77_un at h
  split at h
  · injection h with h; subst h; rfl
  · cases h
/- slices.IndexFunc[[]catchpole/core.Core,catchpole/core.Core] -/
noncomputable def f90_I : PV × Int → List SV × Obs := fun x => ([.val 25 x.1, .fn 77 [.ptr 4001000 []]], [(4001000, .box 3 (.int .i64 x.2))])
noncomputable def f90_D : List SV → Obs → Option (PV × Int)
  | [.val 25 p1, .fn 77 [.ptr 4001000 []]], [(4001000, .box 3 (.int .i64 n2))] => some (p1, n2)
  | _, _ => none
theorem f90_D_ok (args : List SV) (B : Obs) (x : PV × Int) (h : f90_D args B = some x) : f90_I x = (args, B) := by
  unfold f90_D at h
  split at h
  · injection h with h; subst h; rfl
  · cases h
noncomputable def f90_O : Int × Int → Out := (fun y => ([.int .i64 y.1], [(4001000, .box 3 (.int .i64 y.2))]))
noncomputable def f90_un : Out → Option (Int × Int)
  | ([.int .i64 y0], [(4001000, .box 3 (.int .i64 y1))]) => some (y0, y1)
  | _ => none
theorem f90_un_ok (o : Out) (y : Int × Int) (h : f90_un o = some y) : o = f90_O y := by
  unfold f90_un at h
  split at h
  · injection h with h; subst h; rfl
  · cases h
/- slices.ContainsFunc[[]catchpole/core.Core,catchpole/core.Core] -/
noncomputable def f76_I : PV × Int → List SV × Obs := fun x => ([.val 25 x.1, .fn 77 [.ptr 4001000 []]], [(4001000, .box 3 (.int .i64 x.2))])
noncomputable def f76_D : List SV → Obs → Option (PV × Int)
  | [.val 25 p1, .fn 77 [.ptr 4001000 []]], [(4001000, .box 3 (.int .i64 n2))] => some (p1, n2)
  | _, _ => none
theorem f76_D_ok (args : List SV) (B : Obs) (x : PV × Int) (h : f76_D args B = some x) : f76_I x = (args, B) := by
  unfold f76_D at h
  split at h
  · injection h with h; subst h; rfl
  · cases h
noncomputable def f76_O : Bool × Int → Out := (fun y => ([.bool y.1], [(4001000, .box 3 (.int .i64 y.2))]))
noncomputable def f76_un : Out → Option (Bool × Int)
  | ([.bool y0], [(4001000, .box 3 (.int .i64 y1))]) => some (y0, y1)
  | _ => none
theorem f76_un_ok (o : Out) (y : Bool × Int) (h : f76_un o = some y) : o = f76_O y := by
  unfold f76_un at h
  split at h
  · injection h with h; subst h; rfl
  · cases h
/- catchpole/core.good -/
noncomputable def f57_I : PV × Int → List SV × Obs := fun x => ([.val 27 x.1, .int .i64 x.2], [])
noncomputable def f57_D : List SV → Obs → Option (PV × Int)
  | [.val 27 p1, .int .i64 n2], [] => some (p1, n2)
  | _, _ => none
theorem f57_D_ok (args : List SV) (B : Obs) (x : PV × Int) (h : f57_D args B = some x) : f57_I x = (args, B) := by
  unfold f57_D at h
  split at h
  · injection h with h; subst h; rfl
  · cases h
noncomputable def f57_O : Bool → Out := (fun y => ([.bool y], []))
noncomputable def f57_un : Out → Option (Bool)
  | ([.bool y0], []) => some y0
  | _ => none
theorem f57_un_ok (o : Out) (y : Bool) (h : f57_un o = some y) : o = f57_O y := by
  unfold f57_un at h
  split at h
  · injection h with h; subst h; rfl
  · cases h
noncomputable def f77_msk : Nat → Option (List Nat) := fun key =>  none
noncomputable def f77_C (c57 : PV → Int → (Bool → R) → R) : Oracle := orc 57 f57_D f57_O (fun x ret => c57 x.1 x.2 (fun y0 => ret y0)) <| orc0
noncomputable def f77_E (k : Nat) (c57 : PV → Int → (Bool → R) → R) : Env := { P := Try.prog, nilOwn := fun d => false, fldOwn := fun d i => false, ownPar := ownPars, ownRet := false, mask := f77_msk, fuel := k, C := f77_C c57 }
noncomputable def f77_code : Code := Try.f77.body.getD .skip
noncomputable def f77_e (c57 : PV → Int → (Bool → R) → R) (ret0 : Bool → Int → R) (p1 : PV) (n2 : Int) : R :=
  c57 p1 (IntKind.wrap .i64 (n2 - (1 : Int))) fun b3 =>
  ret0 (!b3) n2

theorem f77_e_mem (k : Nat) (c57 : PV → Int → (Bool → R) → R) (retF : Bool × Int → R) (p1 : PV) (n2 : Int) : exec (f77_E k c57) f77_code (endK (f77_E k c57) Try.f77 [4000000] f77_un retF) ⟨[.val 27 p1, .ptr 4000000 [], .undef, .undef, .undef, .undef, .undef, .undef, .undef], [(4000000, .box 3 (.int .i64 n2))]⟩ = f77_e c57 (fun y0 y1 => retF (y0, y1)) p1 n2 := by kernel_rfl

noncomputable def f77_N (k : Nat) (c57 : PV → Int → (Bool → R) → R) (ret0 : Bool → Int → R) (p1 : PV) (n2 : Int) : R :=
  f77_e c57 ret0 p1 n2
theorem f77_eq (k : Nat) (c57 : PV → Int → (Bool → R) → R) (retF : Bool × Int → R) (p1 : PV) (n2 : Int) : exec (f77_E k c57) f77_code (endK (f77_E k c57) Try.f77 [4000000] f77_un retF) ⟨[.val 27 p1, .ptr 4000000 [], .undef, .undef, .undef, .undef, .undef, .undef, .undef], [(4000000, .box 3 (.int .i64 n2))]⟩ = f77_N k c57 (fun y0 y1 => retF (y0, y1)) p1 n2 :=
  (f77_e_mem k c57 retF p1 n2)

noncomputable def f90_msk : Nat → Option (List Nat) := fun key => bif key == 6 then some [0, 1, 7, 8] else none
noncomputable def f90_C (c77 : PV → Int → (Bool → Int → R) → R) : Oracle := orc 77 f77_D f77_O (fun x ret => c77 x.1 x.2 (fun y0 y1 => ret (y0, y1))) <| orc0
noncomputable def f90_E (k : Nat) (c77 : PV → Int → (Bool → Int → R) → R) : Env := { P := Try.prog, nilOwn := fun d => false, fldOwn := fun d i => false, ownPar := ownPars, ownRet := false, mask := f90_msk, fuel := k, C := f90_C c77 }
noncomputable def f90_code : Code := Try.f90.body.getD .skip
noncomputable def f90_cw1 : Code := subC f90_code [1, 0, 1, 0, 0]
noncomputable def f90_hw1_0 (p1 : PV) (n5 : Int) (n6 : Int) : St := ⟨[.val 25 p1, .fn 77 [.ptr 4001000 []], .dead, .dead, .dead, .dead, .dead, .int .i64 (List.length (PV.els p1) : Int), .int .i64 n5, .dead, .dead, .dead, .dead, .dead, .dead, .dead, .dead, .dead, .dead], [(4001000, .box 3 (.int .i64 n6))]⟩
noncomputable def f90_w1A (k : Nat) (c77 : PV → Int → (Bool → Int → R) → R) (retF : Int × Int → R) (p1 : PV) (n5 : Int) (n6 : Int) : R := loopM (f90_E k c77) f90_cw1 (kont (f90_E k c77) f90_code [1, 0, 1, 0] (endK (f90_E k c77) Try.f90 [4001000] f90_un retF)) k (f90_hw1_0 p1 n5 n6)
noncomputable def f90_w1b0 (c77 : PV → Int → (Bool → Int → R) → R) (ret0 : Int → Int → R) (next_w1_0 : Int → Int → R) (p1 : PV) (n5 : Int) (n6 : Int) : R :=
  bif (decide (n5 < (List.length (PV.els p1) : Int))) then
    bif (true && decide ((0 : Int) ≤ n5) && decide (n5 < (List.length (PV.els p1) : Int))) then
      c77 (List.getD (PV.els p1) (n5).toNat PV.nil) n6 fun b7 n8 =>
      bif b7 then
        ret0 n5 n8
      else next_w1_0 (IntKind.wrap .i64 (n5 + (1 : Int))) n8
    else none
  else ret0 (-1) n6

theorem f90_w1b0_mem (k : Nat) (c77 : PV → Int → (Bool → Int → R) → R) (retF : Int × Int → R) (NX_w1 : St → R) (p1 : PV) (n5 : Int) (n6 : Int) : exec (f90_E k c77) f90_cw1 (purgeK (f90_E k c77) f90_cw1 (loopK NX_w1 (kont (f90_E k c77) f90_code [1, 0, 1, 0] (endK (f90_E k c77) Try.f90 [4001000] f90_un retF)))) (f90_hw1_0 p1 n5 n6) = f90_w1b0 c77 (fun y0 y1 => retF (y0, y1)) (fun n5 n6 => NX_w1 (f90_hw1_0 p1 n5 n6)) p1 n5 n6 := by kernel_rfl

noncomputable def f90_w1b0N (k : Nat) (c77 : PV → Int → (Bool → Int → R) → R) (ret0 : Int → Int → R) (next_w1_0 : Int → Int → R) (p1 : PV) (n5 : Int) (n6 : Int) : R :=
  f90_w1b0 c77 ret0 next_w1_0 p1 n5 n6
theorem f90_w1b0_eq (k : Nat) (c77 : PV → Int → (Bool → Int → R) → R) (retF : Int × Int → R) (NX_w1 : St → R) (p1 : PV) (n5 : Int) (n6 : Int) : exec (f90_E k c77) f90_cw1 (purgeK (f90_E k c77) f90_cw1 (loopK NX_w1 (kont (f90_E k c77) f90_code [1, 0, 1, 0] (endK (f90_E k c77) Try.f90 [4001000] f90_un retF)))) (f90_hw1_0 p1 n5 n6) = f90_w1b0N k c77 (fun y0 y1 => retF (y0, y1)) (fun n5 n6 => NX_w1 (f90_hw1_0 p1 n5 n6)) p1 n5 n6 :=
  (f90_w1b0_mem k c77 retF NX_w1 p1 n5 n6)

noncomputable def f90_w1B (k : Nat) (c77 : PV → Int → (Bool → Int → R) → R) (ret0 : Int → Int → R) (p1 : PV) (nx : Int × Int → R) : Int × Int → R := (fun s => f90_w1b0N k c77 ret0 (fun n5 n6 => nx (n5, n6)) p1 s.1 s.2)
noncomputable def f90_w1N (k : Nat) (c77 : PV → Int → (Bool → Int → R) → R) (ret0 : Int → Int → R) (p1 : PV) (n5 : Int) (n6 : Int) : R := loopR (f90_w1B k c77 ret0 p1) k (n5, n6)
theorem f90_w1_eq (k : Nat) (c77 : PV → Int → (Bool → Int → R) → R) (retF : Int × Int → R) (p1 : PV) (n5 : Int) (n6 : Int) : f90_w1A k c77 retF p1 n5 n6 = f90_w1N k c77 (fun y0 y1 => retF (y0, y1)) p1 n5 n6 :=
  Eq.mp (by kernel_rfl) (loop_sim (E := (f90_E k c77)) (c := f90_cw1) (K := (kont (f90_E k c77) f90_code [1, 0, 1, 0] (endK (f90_E k c77) Try.f90 [4001000] f90_un retF))) (S := Int × Int) (fun s => f90_hw1_0 p1 s.1 s.2) (f90_w1B k c77 (fun y0 y1 => retF (y0, y1)) p1) (fun NX s => by
    exact Eq.mp (by kernel_rfl) (f90_w1b0_eq k c77 retF NX p1 s.1 s.2)) k (n5, n6))

noncomputable def f90_e (c77 : PV → Int → (Bool → Int → R) → R) (ret0 : Int → Int → R) (w1 : Int → Int → R) (p1 : PV) (n2 : Int) : R :=
  w1 0 n2

theorem f90_e_mem (k : Nat) (c77 : PV → Int → (Bool → Int → R) → R) (retF : Int × Int → R) (p1 : PV) (n2 : Int) : exec (f90_E k c77) f90_code (endK (f90_E k c77) Try.f90 [4001000] f90_un retF) ⟨[.val 25 p1, .fn 77 [.ptr 4001000 []], .undef, .undef, .undef, .undef, .undef, .undef, .undef, .undef, .undef, .undef, .undef, .undef, .undef, .undef, .undef, .undef, .undef], [(4001000, .box 3 (.int .i64 n2))]⟩ = f90_e c77 (fun y0 y1 => retF (y0, y1)) (fun n5 n6 => f90_w1A k c77 retF p1 n5 n6) p1 n2 := by kernel_rfl

noncomputable def f90_N (k : Nat) (c77 : PV → Int → (Bool → Int → R) → R) (ret0 : Int → Int → R) (p1 : PV) (n2 : Int) : R :=
  f90_e c77 ret0 (fun n5 n6 => f90_w1N k c77 ret0 p1 n5 n6) p1 n2
theorem f90_eq (k : Nat) (c77 : PV → Int → (Bool → Int → R) → R) (retF : Int × Int → R) (p1 : PV) (n2 : Int) : exec (f90_E k c77) f90_code (endK (f90_E k c77) Try.f90 [4001000] f90_un retF) ⟨[.val 25 p1, .fn 77 [.ptr 4001000 []], .undef, .undef, .undef, .undef, .undef, .undef, .undef, .undef, .undef, .undef, .undef, .undef, .undef, .undef, .undef, .undef, .undef], [(4001000, .box 3 (.int .i64 n2))]⟩ = f90_N k c77 (fun y0 y1 => retF (y0, y1)) p1 n2 :=
  (f90_e_mem k c77 retF p1 n2).trans (by rw [show (fun n5 n6 => f90_w1A k c77 retF p1 n5 n6) = (fun n5 n6 => f90_w1N k c77 (fun y0 y1 => retF (y0, y1)) p1 n5 n6) from funext fun n5 => funext fun n6 => f90_w1_eq k c77 retF p1 n5 n6]; rfl)

noncomputable def f76_msk : Nat → Option (List Nat) := fun key =>  none
noncomputable def f76_C (c90 : PV → Int → (Int → Int → R) → R) : Oracle := orc 90 f90_D f90_O (fun x ret => c90 x.1 x.2 (fun y0 y1 => ret (y0, y1))) <| orc0
noncomputable def f76_E (k : Nat) (c90 : PV → Int → (Int → Int → R) → R) : Env := { P := Try.prog, nilOwn := fun d => false, fldOwn := fun d i => false, ownPar := ownPars, ownRet := false, mask := f76_msk, fuel := k, C := f76_C c90 }
noncomputable def f76_code : Code := Try.f76.body.getD .skip
noncomputable def f76_e (c90 : PV → Int → (Int → Int → R) → R) (ret0 : Bool → Int → R) (p1 : PV) (n2 : Int) : R :=
  c90 p1 n2 fun n3 n4 =>
  ret0 (decide ((0 : Int) ≤ n3)) n4

theorem f76_e_mem (k : Nat) (c90 : PV → Int → (Int → Int → R) → R) (retF : Bool × Int → R) (p1 : PV) (n2 : Int) : exec (f76_E k c90) f76_code (endK (f76_E k c90) Try.f76 [4001000] f76_un retF) ⟨[.val 25 p1, .fn 77 [.ptr 4001000 []], .undef, .undef, .undef, .undef, .undef, .undef, .undef], [(4001000, .box 3 (.int .i64 n2))]⟩ = f76_e c90 (fun y0 y1 => retF (y0, y1)) p1 n2 := by kernel_rfl

noncomputable def f76_N (k : Nat) (c90 : PV → Int → (Int → Int → R) → R) (ret0 : Bool → Int → R) (p1 : PV) (n2 : Int) : R :=
  f76_e c90 ret0 p1 n2
theorem f76_eq (k : Nat) (c90 : PV → Int → (Int → Int → R) → R) (retF : Bool × Int → R) (p1 : PV) (n2 : Int) : exec (f76_E k c90) f76_code (endK (f76_E k c90) Try.f76 [4001000] f76_un retF) ⟨[.val 25 p1, .fn 77 [.ptr 4001000 []], .undef, .undef, .undef, .undef, .undef, .undef, .undef], [(4001000, .box 3 (.int .i64 n2))]⟩ = f76_N k c90 (fun y0 y1 => retF (y0, y1)) p1 n2 :=
  (f76_e_mem k c90 retF p1 n2)

noncomputable def f57_msk : Nat → Option (List Nat) := fun key =>  none
noncomputable def f57_C (c75 : Int → (Int → R) → R) (c76 : PV → Int → (Bool → Int → R) → R) : Oracle := orc 75 f75_D f75_O (fun x ret => c75 x (fun y0 => ret y0)) <| orc 76 f76_D f76_O (fun x ret => c76 x.1 x.2 (fun y0 y1 => ret (y0, y1))) <| orc0
noncomputable def f57_E (k : Nat) (c75 : Int → (Int → R) → R) (c76 : PV → Int → (Bool → Int → R) → R) : Env := { P := Try.prog, nilOwn := fun d => false, fldOwn := fun d i => false, ownPar := ownPars, ownRet := false, mask := f57_msk, fuel := k, C := f57_C c75 c76 }
noncomputable def f57_code : Code := Try.f57.body.getD .skip
noncomputable def f57_e (c75 : Int → (Int → R) → R) (c76 : PV → Int → (Bool → Int → R) → R) (ret0 : Bool → R) (p1 : PV) (n2 : Int) : R :=
  bif ((decide (n2 < (1 : Int))) == false) then
    c75 (PV.num (PV.fld p1 0)) fun n3 =>
    bif ((!(decide ((List.length (PV.els (PV.fld p1 3)) : Int) = n3))) == false) then
      bif ((!(decide ((PV.num (PV.fld p1 0)) = (2 : Int)))) == true) then
        bif (!(PV.beq (PV.fld p1 1) (PV.agg [(PV.int 0), (PV.int 0), (PV.int 0), (PV.int 0)]))) then
          ret0 false
        else bif ((decide ((PV.num (PV.fld p1 0)) = (6 : Int))) == true) then
          bif ((decide ((PV.num (PV.fld p1 2)) < (1 : Int))) == false) then
            bif ((decide ((32 : Int) < (PV.num (PV.fld p1 2)))) == false) then
              bif ((!(decide ((PV.num (PV.fld p1 0)) = (6 : Int)))) == true) then
                bif (!(decide ((PV.num (PV.fld p1 2)) = (0 : Int)))) then
                  ret0 false
                else c76 (PV.fld p1 3) n2 fun b4 n5 =>
                ret0 (!b4)
              else c76 (PV.fld p1 3) n2 fun b6 n7 =>
              ret0 (!b6)
            else ret0 false
          else ret0 false
        else bif ((!(decide ((PV.num (PV.fld p1 0)) = (6 : Int)))) == true) then
          bif (!(decide ((PV.num (PV.fld p1 2)) = (0 : Int)))) then
            ret0 false
          else c76 (PV.fld p1 3) n2 fun b8 n9 =>
          ret0 (!b8)
        else c76 (PV.fld p1 3) n2 fun b10 n11 =>
        ret0 (!b10)
      else bif ((decide ((PV.num (PV.fld p1 0)) = (6 : Int))) == true) then
        bif ((decide ((PV.num (PV.fld p1 2)) < (1 : Int))) == false) then
          bif ((decide ((32 : Int) < (PV.num (PV.fld p1 2)))) == false) then
            bif ((!(decide ((PV.num (PV.fld p1 0)) = (6 : Int)))) == true) then
              bif (!(decide ((PV.num (PV.fld p1 2)) = (0 : Int)))) then
                ret0 false
              else c76 (PV.fld p1 3) n2 fun b12 n13 =>
              ret0 (!b12)
            else c76 (PV.fld p1 3) n2 fun b14 n15 =>
            ret0 (!b14)
          else ret0 false
        else ret0 false
      else bif ((!(decide ((PV.num (PV.fld p1 0)) = (6 : Int)))) == true) then
        bif (!(decide ((PV.num (PV.fld p1 2)) = (0 : Int)))) then
          ret0 false
        else c76 (PV.fld p1 3) n2 fun b16 n17 =>
        ret0 (!b16)
      else c76 (PV.fld p1 3) n2 fun b18 n19 =>
      ret0 (!b18)
    else ret0 false
  else ret0 false

theorem f57_e_mem (k : Nat) (c75 : Int → (Int → R) → R) (c76 : PV → Int → (Bool → Int → R) → R) (retF : Bool → R) (p1 : PV) (n2 : Int) : exec (f57_E k c75 c76) f57_code (endK (f57_E k c75 c76) Try.f57 [] f57_un retF) ⟨[.val 27 p1, .int .i64 n2, .undef, .undef, .undef, .undef, .undef, .undef, .undef, .undef, .undef, .undef, .undef, .undef, .undef, .undef, .undef, .undef, .undef, .undef, .undef, .undef, .undef, .undef, .undef, .undef, .undef, .undef, .undef, .undef, .undef, .undef, .undef, .undef, .undef, .undef, .undef, .undef, .undef, .undef, .undef, .undef, .undef, .undef, .undef, .undef, .undef, .undef, .undef, .undef, .undef, .undef, .undef, .undef, .undef], []⟩ = f57_e c75 c76 (fun y0 => retF y0) p1 n2 := by kernel_rfl

noncomputable def f57_N (k : Nat) (c75 : Int → (Int → R) → R) (c76 : PV → Int → (Bool → Int → R) → R) (ret0 : Bool → R) (p1 : PV) (n2 : Int) : R :=
  f57_e c75 c76 ret0 p1 n2
theorem f57_eq (k : Nat) (c75 : Int → (Int → R) → R) (c76 : PV → Int → (Bool → Int → R) → R) (retF : Bool → R) (p1 : PV) (n2 : Int) : exec (f57_E k c75 c76) f57_code (endK (f57_E k c75 c76) Try.f57 [] f57_un retF) ⟨[.val 27 p1, .int .i64 n2, .undef, .undef, .undef, .undef, .undef, .undef, .undef, .undef, .undef, .undef, .undef, .undef, .undef, .undef, .undef, .undef, .undef, .undef, .undef, .undef, .undef, .undef, .undef, .undef, .undef, .undef, .undef, .undef, .undef, .undef, .undef, .undef, .undef, .undef, .undef, .undef, .undef, .undef, .undef, .undef, .undef, .undef, .undef, .undef, .undef, .undef, .undef, .undef, .undef, .undef, .undef, .undef, .undef], []⟩ = f57_N k c75 c76 (fun y0 => retF y0) p1 n2 :=
  (f57_e_mem k c75 c76 retF p1 n2)

mutual
noncomputable def G77 : Nat → PV → Int → (Bool → Int → R) → R
  | 0, _, _, _ => none
  | k + 1, p1, n2, ret0 => f77_N k (G57 k) ret0 p1 n2
noncomputable def G90 : Nat → PV → Int → (Int → Int → R) → R
  | 0, _, _, _ => none
  | k + 1, p1, n2, ret0 => f90_N k (G77 k) ret0 p1 n2
noncomputable def G76 : Nat → PV → Int → (Bool → Int → R) → R
  | 0, _, _, _ => none
  | k + 1, p1, n2, ret0 => f76_N k (G90 k) ret0 p1 n2
noncomputable def G57 : Nat → PV → Int → (Bool → R) → R
  | 0, _, _, _ => none
  | k + 1, p1, n2, ret0 => f57_N k (G75 k) (G76 k) ret0 p1 n2
end
mutual
theorem S77 : ∀ k, Snd Try.prog 77 f77_I f77_O (fun x ret => G77 k x.1 x.2 (fun y0 y1 => ret (y0, y1)))
  | 0 => snd_none
  | k + 1 => snd_step (E := f77_E k (G57 k)) rfl laidOut noNums (orc_ok (S57 k).o f57_D_ok orc0_ok) (f := 77) (fn := Try.f77) (code := f77_code) Try.func77 (by kernel_rfl) (drawsOk_of laidOut (orc_ok (S57 k).o f57_D_ok orc0_ok) mixed (by kernel_rfl)) f77_un f77_un_ok [4000000] (fun _ => rfl)
      (fun x ret => f77_eq k (G57 k) ret x.1 x.2)
theorem S90 : ∀ k, Snd Try.prog 90 f90_I f90_O (fun x ret => G90 k x.1 x.2 (fun y0 y1 => ret (y0, y1)))
  | 0 => snd_none
  | k + 1 => snd_step (E := f90_E k (G77 k)) rfl laidOut noNums (orc_ok (S77 k).o f77_D_ok orc0_ok) (f := 90) (fn := Try.f90) (code := f90_code) Try.func90 (by kernel_rfl) (drawsOk_of laidOut (orc_ok (S77 k).o f77_D_ok orc0_ok) mixed (by kernel_rfl)) f90_un f90_un_ok [4001000] (fun _ => rfl)
      (fun x ret => f90_eq k (G77 k) ret x.1 x.2)
theorem S76 : ∀ k, Snd Try.prog 76 f76_I f76_O (fun x ret => G76 k x.1 x.2 (fun y0 y1 => ret (y0, y1)))
  | 0 => snd_none
  | k + 1 => snd_step (E := f76_E k (G90 k)) rfl laidOut noNums (orc_ok (S90 k).o f90_D_ok orc0_ok) (f := 76) (fn := Try.f76) (code := f76_code) Try.func76 (by kernel_rfl) (drawsOk_of laidOut (orc_ok (S90 k).o f90_D_ok orc0_ok) mixed (by kernel_rfl)) f76_un f76_un_ok [4001000] (fun _ => rfl)
      (fun x ret => f76_eq k (G90 k) ret x.1 x.2)
theorem S57 : ∀ k, Snd Try.prog 57 f57_I f57_O (fun x ret => G57 k x.1 x.2 (fun y0 => ret y0))
  | 0 => snd_none
  | k + 1 => snd_step (E := f57_E k (G75 k) (G76 k)) rfl laidOut noNums (orc_ok (S75 k).o f75_D_ok (orc_ok (S76 k).o f76_D_ok orc0_ok)) (f := 57) (fn := Try.f57) (code := f57_code) Try.func57 (by kernel_rfl) (drawsOk_of laidOut (orc_ok (S75 k).o f75_D_ok (orc_ok (S76 k).o f76_D_ok orc0_ok)) mixed (by kernel_rfl)) f57_un f57_un_ok [] (fun _ => rfl)
      (fun x ret => f57_eq k (G75 k) (G76 k) ret x.1 x.2)
end

/- catchpole/core.Good -/
noncomputable def f16_I : PV → List SV × Obs := fun x => ([.val 27 x], [])
noncomputable def f16_D : List SV → Obs → Option (PV)
  | [.val 27 p1], [] => some p1
  | _, _ => none
theorem f16_D_ok (args : List SV) (B : Obs) (x : PV) (h : f16_D args B = some x) : f16_I x = (args, B) := by
  unfold f16_D at h
  split at h
  · injection h with h; subst h; rfl
  · cases h
noncomputable def f16_O : Bool → Out := (fun y => ([.bool y], []))
noncomputable def f16_un : Out → Option (Bool)
  | ([.bool y0], []) => some y0
  | _ => none
theorem f16_un_ok (o : Out) (y : Bool) (h : f16_un o = some y) : o = f16_O y := by
  unfold f16_un at h
  split at h
  · injection h with h; subst h; rfl
  · cases h
noncomputable def f16_msk : Nat → Option (List Nat) := fun key =>  none
noncomputable def f16_C (c56 : PV → (Int → R) → R) (c57 : PV → Int → (Bool → R) → R) : Oracle := orc 56 f56_D f56_O (fun x ret => c56 x (fun y0 => ret y0)) <| orc 57 f57_D f57_O (fun x ret => c57 x.1 x.2 (fun y0 => ret y0)) <| orc0
noncomputable def f16_E (k : Nat) (c56 : PV → (Int → R) → R) (c57 : PV → Int → (Bool → R) → R) : Env := { P := Try.prog, nilOwn := fun d => false, fldOwn := fun d i => false, ownPar := ownPars, ownRet := false, mask := f16_msk, fuel := k, C := f16_C c56 c57 }
noncomputable def f16_code : Code := Try.f16.body.getD .skip
noncomputable def f16_e (c56 : PV → (Int → R) → R) (c57 : PV → Int → (Bool → R) → R) (ret0 : Bool → R) (p1 : PV) : R :=
  c56 p1 fun n2 =>
  bif ((decide (n2 ≤ (2000 : Int))) == true) then
    c57 p1 8000 fun b3 =>
    ret0 b3
  else ret0 false

theorem f16_e_mem (k : Nat) (c56 : PV → (Int → R) → R) (c57 : PV → Int → (Bool → R) → R) (retF : Bool → R) (p1 : PV) : exec (f16_E k c56 c57) f16_code (endK (f16_E k c56 c57) Try.f16 [] f16_un retF) ⟨[.val 27 p1, .undef, .undef, .undef, .undef, .undef, .undef, .undef, .undef, .undef], []⟩ = f16_e c56 c57 (fun y0 => retF y0) p1 := by kernel_rfl

noncomputable def f16_N (k : Nat) (c56 : PV → (Int → R) → R) (c57 : PV → Int → (Bool → R) → R) (ret0 : Bool → R) (p1 : PV) : R :=
  f16_e c56 c57 ret0 p1
theorem f16_eq (k : Nat) (c56 : PV → (Int → R) → R) (c57 : PV → Int → (Bool → R) → R) (retF : Bool → R) (p1 : PV) : exec (f16_E k c56 c57) f16_code (endK (f16_E k c56 c57) Try.f16 [] f16_un retF) ⟨[.val 27 p1, .undef, .undef, .undef, .undef, .undef, .undef, .undef, .undef, .undef], []⟩ = f16_N k c56 c57 (fun y0 => retF y0) p1 :=
  (f16_e_mem k c56 c57 retF p1)

noncomputable def G16 : Nat → PV → (Bool → R) → R
  | 0, _, _ => none
  | k + 1, p1, ret0 => f16_N k (G56 k) (G57 k) ret0 p1
theorem S16 : ∀ k, Snd Try.prog 16 f16_I f16_O (fun x ret => G16 k x (fun y0 => ret y0))
  | 0 => snd_none
  | k + 1 => snd_step (E := f16_E k (G56 k) (G57 k)) rfl laidOut noNums (orc_ok (S56 k).o f56_D_ok (orc_ok (S57 k).o f57_D_ok orc0_ok)) (f := 16) (fn := Try.f16) (code := f16_code) Try.func16 (by kernel_rfl) (drawsOk_of laidOut (orc_ok (S56 k).o f56_D_ok (orc_ok (S57 k).o f57_D_ok orc0_ok)) mixed (by kernel_rfl)) f16_un f16_un_ok [] (fun _ => rfl)
      (fun x ret => f16_eq k (G56 k) (G57 k) ret x)

/- (catchpole/byteset.Set).Has -/
noncomputable def f79_I : PV × Int → List SV × Obs := fun x => ([.val 24 x.1, .int .u8 x.2], [])
noncomputable def f79_D : List SV → Obs → Option (PV × Int)
  | [.val 24 p1, .int .u8 n2], [] => some (p1, n2)
  | _, _ => none
theorem f79_D_ok (args : List SV) (B : Obs) (x : PV × Int) (h : f79_D args B = some x) : f79_I x = (args, B) := by
  unfold f79_D at h
  split at h
  · injection h with h; subst h; rfl
  · cases h
noncomputable def f79_O : Bool → Out := (fun y => ([.bool y], []))
noncomputable def f79_un : Out → Option (Bool)
  | ([.bool y0], []) => some y0
  | _ => none
theorem f79_un_ok (o : Out) (y : Bool) (h : f79_un o = some y) : o = f79_O y := by
  unfold f79_un at h
  split at h
  · injection h with h; subst h; rfl
  · cases h
noncomputable def f79_msk : Nat → Option (List Nat) := fun key =>  none
noncomputable def f79_C : Oracle := orc0
noncomputable def f79_E (k : Nat) : Env := { P := Try.prog, nilOwn := fun d => false, fldOwn := fun d i => false, ownPar := ownPars, ownRet := false, mask := f79_msk, fuel := k, C := f79_C }
noncomputable def f79_code : Code := Try.f79.body.getD .skip
noncomputable def f79_e (ret0 : Bool → R) (p1 : PV) (n2 : Int) : R :=
  bif (true && decide ((0 : Int) ≤ (IntKind.wrap .u8 (Int.tdiv n2 64))) && decide ((IntKind.wrap .u8 (Int.tdiv n2 64)) < 4)) then
    bif (decide ((0 : Int) ≤ (Int.tmod n2 64))) then
      let n3 : Int := (Int.fdiv (PV.num (PV.fld p1 ((IntKind.wrap .u8 (Int.tdiv n2 64))).toNat)) (2 ^ (min ((Int.tmod n2 64)).toNat 64)))
      ret0 (decide ((intBit .and .u64 n3 1) = (1 : Int)))
    else none
  else none

theorem f79_e_mem (k : Nat) (retF : Bool → R) (p1 : PV) (n2 : Int) : exec (f79_E k) f79_code (endK (f79_E k) Try.f79 [] f79_un retF) ⟨[.val 24 p1, .int .u8 n2, .undef, .undef, .undef, .undef, .undef, .undef, .undef, .undef, .undef, .undef, .undef, .undef], []⟩ = f79_e (fun y0 => retF y0) p1 n2 := by kernel_rfl

noncomputable def f79_N (k : Nat) (ret0 : Bool → R) (p1 : PV) (n2 : Int) : R :=
  f79_e ret0 p1 n2
theorem f79_eq (k : Nat) (retF : Bool → R) (p1 : PV) (n2 : Int) : exec (f79_E k) f79_code (endK (f79_E k) Try.f79 [] f79_un retF) ⟨[.val 24 p1, .int .u8 n2, .undef, .undef, .undef, .undef, .undef, .undef, .undef, .undef, .undef, .undef, .undef, .undef], []⟩ = f79_N k (fun y0 => retF y0) p1 n2 :=
  (f79_e_mem k retF p1 n2)

noncomputable def G79 : Nat → PV → Int → (Bool → R) → R
  | 0, _, _, _ => none
  | k + 1, p1, n2, ret0 => f79_N k  ret0 p1 n2
theorem S79 : ∀ k, Snd Try.prog 79 f79_I f79_O (fun x ret => G79 k x.1 x.2 (fun y0 => ret y0))
  | 0 => snd_none
  | k + 1 => snd_step (E := f79_E k ) rfl laidOut noNums orc0_ok (f := 79) (fn := Try.f79) (code := f79_code) Try.func79 (by kernel_rfl) (drawsOk_of laidOut orc0_ok mixed (by kernel_rfl)) f79_un f79_un_ok [] (fun _ => rfl)
      (fun x ret => f79_eq k  ret x.1 x.2)

/- (*catchpole/bits.reader).choice -/
noncomputable def f88_I : PV → List SV × Obs := fun x => ([.ptr 2000000 []], [(2000000, .box 90 (.val 90 x))])
noncomputable def f88_D : List SV → Obs → Option (PV)
  | [.ptr 2000000 []], [(2000000, .box 90 (.val 90 p1))] => some p1
  | _, _ => none
theorem f88_D_ok (args : List SV) (B : Obs) (x : PV) (h : f88_D args B = some x) : f88_I x = (args, B) := by
  unfold f88_D at h
  split at h
  · injection h with h; subst h; rfl
  · cases h
noncomputable def f88_O : Bool × Bool × PV → Out := (fun y => ([.bool y.1, .bool y.2.1], [(2000000, .box 90 (.val 90 y.2.2))]))
noncomputable def f88_un : Out → Option (Bool × Bool × PV)
  | ([.bool y0, .bool y1], [(2000000, .box 90 (.val 90 y2))]) => some (y0, y1, y2)
  | _ => none
theorem f88_un_ok (o : Out) (y : Bool × Bool × PV) (h : f88_un o = some y) : o = f88_O y := by
  unfold f88_un at h
  split at h
  · injection h with h; subst h; rfl
  · cases h
noncomputable def f88_msk : Nat → Option (List Nat) := fun key =>  none
noncomputable def f88_C : Oracle := orc0
noncomputable def f88_E (k : Nat) : Env := { P := Try.prog, nilOwn := fun d => false, fldOwn := fun d i => false, ownPar := ownPars, ownRet := false, mask := f88_msk, fuel := k, C := f88_C }
noncomputable def f88_code : Code := Try.f88.body.getD .skip
noncomputable def f88_e (ret0 : Bool → Bool → PV → R) (p1 : PV) : R :=
  bif ((decide (((PV.chars (PV.fld p1 0)) : List Int) = [])) == false) then
    bif (decide ((0 : Int) ≤ (0 : Int)) && decide ((0 : Int) < (List.length (PV.chars (PV.fld p1 0)) : Int))) then
      bif ((!(decide ((List.getD (PV.chars (PV.fld p1 0)) ((0 : Int)).toNat 0) = (48 : Int)))) == true) then
        bif (decide ((0 : Int) ≤ (0 : Int)) && decide ((0 : Int) < (List.length (PV.chars (PV.fld p1 0)) : Int))) then
          bif (!(decide ((List.getD (PV.chars (PV.fld p1 0)) ((0 : Int)).toNat 0) = (49 : Int)))) then
            ret0 false false p1
          else bif (decide ((0 : Int) ≤ (0 : Int)) && decide ((0 : Int) < (List.length (PV.chars (PV.fld p1 0)) : Int))) then
            bif (decide ((0 : Int) ≤ (1 : Int)) && decide ((1 : Int) ≤ (List.length (PV.chars (PV.fld p1 0)) : Int)) && decide ((List.length (PV.chars (PV.fld p1 0)) : Int) ≤ (List.length (PV.chars (PV.fld p1 0)) : Int))) then
              let s2 : List Int := (List.drop ((1 : Int)).toNat (List.take ((List.length (PV.chars (PV.fld p1 0)) : Int)).toNat (PV.chars (PV.fld p1 0))))
              ret0 (decide ((List.getD (PV.chars (PV.fld p1 0)) ((0 : Int)).toNat 0) = (49 : Int))) true (PV.agg (List.set (PV.flds p1) 0 (PV.str s2)))
            else none
          else none
        else none
      else bif (decide ((0 : Int) ≤ (0 : Int)) && decide ((0 : Int) < (List.length (PV.chars (PV.fld p1 0)) : Int))) then
        bif (decide ((0 : Int) ≤ (1 : Int)) && decide ((1 : Int) ≤ (List.length (PV.chars (PV.fld p1 0)) : Int)) && decide ((List.length (PV.chars (PV.fld p1 0)) : Int) ≤ (List.length (PV.chars (PV.fld p1 0)) : Int))) then
          let s3 : List Int := (List.drop ((1 : Int)).toNat (List.take ((List.length (PV.chars (PV.fld p1 0)) : Int)).toNat (PV.chars (PV.fld p1 0))))
          ret0 (decide ((List.getD (PV.chars (PV.fld p1 0)) ((0 : Int)).toNat 0) = (49 : Int))) true (PV.agg (List.set (PV.flds p1) 0 (PV.str s3)))
        else none
      else none
    else none
  else ret0 false false p1

theorem f88_e_mem (k : Nat) (retF : Bool × Bool × PV → R) (p1 : PV) : exec (f88_E k) f88_code (endK (f88_E k) Try.f88 [2000000] f88_un retF) ⟨[.ptr 2000000 [], .undef, .undef, .undef, .undef, .undef, .undef, .undef, .undef, .undef, .undef, .undef, .undef, .undef, .undef, .undef, .undef, .undef, .undef, .undef, .undef, .undef, .undef, .undef, .undef, .undef, .undef, .undef, .undef, .undef, .undef, .undef, .undef, .undef, .undef, .undef, .undef, .undef, .undef, .undef, .undef, .undef, .undef], [(2000000, .box 90 (.val 90 p1))]⟩ = f88_e (fun y0 y1 y2 => retF (y0, y1, y2)) p1 := by kernel_rfl

noncomputable def f88_N (k : Nat) (ret0 : Bool → Bool → PV → R) (p1 : PV) : R :=
  f88_e ret0 p1
theorem f88_eq (k : Nat) (retF : Bool × Bool × PV → R) (p1 : PV) : exec (f88_E k) f88_code (endK (f88_E k) Try.f88 [2000000] f88_un retF) ⟨[.ptr 2000000 [], .undef, .undef, .undef, .undef, .undef, .undef, .undef, .undef, .undef, .undef, .undef, .undef, .undef, .undef, .undef, .undef, .undef, .undef, .undef, .undef, .undef, .undef, .undef, .undef, .undef, .undef, .undef, .undef, .undef, .undef, .undef, .undef, .undef, .undef, .undef, .undef, .undef, .undef, .undef, .undef, .undef, .undef], [(2000000, .box 90 (.val 90 p1))]⟩ = f88_N k (fun y0 y1 y2 => retF (y0, y1, y2)) p1 :=
  (f88_e_mem k retF p1)

noncomputable def G88 : Nat → PV → (Bool → Bool → PV → R) → R
  | 0, _, _ => none
  | k + 1, p1, ret0 => f88_N k  ret0 p1
theorem S88 : ∀ k, Snd Try.prog 88 f88_I f88_O (fun x ret => G88 k x (fun y0 y1 y2 => ret (y0, y1, y2)))
  | 0 => snd_none
  | k + 1 => snd_step (E := f88_E k ) rfl laidOut noNums orc0_ok (f := 88) (fn := Try.f88) (code := f88_code) Try.func88 (by kernel_rfl) (drawsOk_of laidOut orc0_ok mixed (by kernel_rfl)) f88_un f88_un_ok [2000000] (fun _ => rfl)
      (fun x ret => f88_eq k  ret x)

/- (*catchpole/bits.reader).often -/
noncomputable def f89_I : PV × PV → List SV × Obs := fun x => ([.ptr 2000000 [], .val 27 x.1], [(2000000, .box 90 (.val 90 x.2))])
noncomputable def f89_D : List SV → Obs → Option (PV × PV)
  | [.ptr 2000000 [], .val 27 p1], [(2000000, .box 90 (.val 90 p2))] => some (p1, p2)
  | _, _ => none
theorem f89_D_ok (args : List SV) (B : Obs) (x : PV × PV) (h : f89_D args B = some x) : f89_I x = (args, B) := by
  unfold f89_D at h
  split at h
  · injection h with h; subst h; rfl
  · cases h
noncomputable def f89_O : PV × Bool × PV → Out := (fun y => ([.val 30 y.1, .bool y.2.1], [(2000000, .box 90 (.val 90 y.2.2))]))
noncomputable def f89_un : Out → Option (PV × Bool × PV)
  | ([.val 30 y0, .bool y1], [(2000000, .box 90 (.val 90 y2))]) => some (y0, y1, y2)
  | _ => none
theorem f89_un_ok (o : Out) (y : PV × Bool × PV) (h : f89_un o = some y) : o = f89_O y := by
  unfold f89_un at h
  split at h
  · injection h with h; subst h; rfl
  · cases h
/- (*catchpole/bits.reader).all -/
noncomputable def f87_I : Int × PV × PV → List SV × Obs := fun x => ([.ptr 2000000 [], .int .i64 x.1, .val 25 x.2.1], [(2000000, .box 90 (.val 90 x.2.2))])
noncomputable def f87_D : List SV → Obs → Option (Int × PV × PV)
  | [.ptr 2000000 [], .int .i64 n1, .val 25 p2], [(2000000, .box 90 (.val 90 p3))] => some (n1, p2, p3)
  | _, _ => none
theorem f87_D_ok (args : List SV) (B : Obs) (x : Int × PV × PV) (h : f87_D args B = some x) : f87_I x = (args, B) := by
  unfold f87_D at h
  split at h
  · injection h with h; subst h; rfl
  · cases h
noncomputable def f87_O : PV × Bool × PV → Out := (fun y => ([.val 30 y.1, .bool y.2.1], [(2000000, .box 90 (.val 90 y.2.2))]))
noncomputable def f87_un : Out → Option (PV × Bool × PV)
  | ([.val 30 y0, .bool y1], [(2000000, .box 90 (.val 90 y2))]) => some (y0, y1, y2)
  | _ => none
theorem f87_un_ok (o : Out) (y : PV × Bool × PV) (h : f87_un o = some y) : o = f87_O y := by
  unfold f87_un at h
  split at h
  · injection h with h; subst h; rfl
  · cases h
/- (*catchpole/bits.reader).get -/
noncomputable def f71_I : PV × PV → List SV × Obs := fun x => ([.ptr 2000000 [], .val 27 x.1], [(2000000, .box 90 (.val 90 x.2))])
noncomputable def f71_D : List SV → Obs → Option (PV × PV)
  | [.ptr 2000000 [], .val 27 p1], [(2000000, .box 90 (.val 90 p2))] => some (p1, p2)
  | _, _ => none
theorem f71_D_ok (args : List SV) (B : Obs) (x : PV × PV) (h : f71_D args B = some x) : f71_I x = (args, B) := by
  unfold f71_D at h
  split at h
  · injection h with h; subst h; rfl
  · cases h
noncomputable def f71_O : PV × Bool × PV → Out := (fun y => ([.val 30 y.1, .bool y.2.1], [(2000000, .box 90 (.val 90 y.2.2))]))
noncomputable def f71_un : Out → Option (PV × Bool × PV)
  | ([.val 30 y0, .bool y1], [(2000000, .box 90 (.val 90 y2))]) => some (y0, y1, y2)
  | _ => none
theorem f71_un_ok (o : Out) (y : PV × Bool × PV) (h : f71_un o = some y) : o = f71_O y := by
  unfold f71_un at h
  split at h
  · injection h with h; subst h; rfl
  · cases h
noncomputable def f89_msk : Nat → Option (List Nat) := fun key => bif key == 6 then some [0, 3, 4, 6] else none
noncomputable def f89_C (c71 : PV → PV → (PV → Bool → PV → R) → R) (c88 : PV → (Bool → Bool → PV → R) → R) : Oracle := orc 71 f71_D f71_O (fun x ret => c71 x.1 x.2 (fun y0 y1 y2 => ret (y0, y1, y2))) <| orc 88 f88_D f88_O (fun x ret => c88 x (fun y0 y1 y2 => ret (y0, y1, y2))) <| orc0
noncomputable def f89_E (k : Nat) (c71 : PV → PV → (PV → Bool → PV → R) → R) (c88 : PV → (Bool → Bool → PV → R) → R) : Env := { P := Try.prog, nilOwn := fun d => false, fldOwn := fun d i => (d == 11 && i == 2) || (d == 46 && i == 2), ownPar := ownPars, ownRet := false, mask := f89_msk, fuel := k, C := f89_C c71 c88 }
noncomputable def f89_code : Code := Try.f89.body.getD .skip
noncomputable def f89_cw1 : Code := subC f89_code [1, 1, 0, 0]
noncomputable def f89_hw1_0 (p1 : PV) (p2 : PV) : St := ⟨[.ptr 2000000 [], .dead, .dead, .ptr 3 [], .ptr 4 [], .dead, .ptr 6 [], .dead, .dead, .dead, .dead, .dead, .dead, .dead, .dead, .dead, .dead, .dead, .dead, .dead, .dead, .dead, .dead, .dead, .dead, .dead, .dead, .dead, .dead, .dead, .dead, .dead, .dead, .dead, .dead, .dead, .dead, .dead, .dead, .dead, .dead, .dead, .dead, .dead, .dead, .dead, .dead, .dead, .dead, .dead, .dead, .dead, .dead], [(3, .box 27 (.val 27 p1)), (4, .box 30 (.val 30 (PV.agg [(PV.int 0), (PV.int 0), (PV.list [])]))), (6, .box 30 (.agg 30 [.int .i64 6, .int .u8 0, .nils])), (2000000, .box 90 (.val 90 p2))]⟩
noncomputable def f89_hw1_1 (p1 : PV) (l15 : List PV) (p16 : PV) : St := ⟨[.ptr 2000000 [], .dead, .dead, .ptr 3 [], .ptr 4 [], .dead, .ptr 6 [], .dead, .dead, .dead, .dead, .dead, .dead, .dead, .dead, .dead, .dead, .dead, .dead, .dead, .dead, .dead, .dead, .dead, .dead, .dead, .dead, .dead, .dead, .dead, .dead, .dead, .dead, .dead, .dead, .dead, .dead, .dead, .dead, .dead, .dead, .dead, .dead, .dead, .dead, .dead, .dead, .dead, .dead, .dead, .dead, .dead, .dead], [(3, .box 27 (.val 27 p1)), (4, .box 30 (.val 30 (PV.agg [(PV.int 0), (PV.int 0), (PV.list [])]))), (6, .box 30 (.agg 30 [.int .i64 6, .int .u8 0, .own 28 51])), (51, .row 30 l15), (2000000, .box 90 (.val 90 p16))]⟩
noncomputable def f89_w1A (k : Nat) (c71 : PV → PV → (PV → Bool → PV → R) → R) (c88 : PV → (Bool → Bool → PV → R) → R) (retF : PV × Bool × PV → R) (p1 : PV) (p2 : PV) : R := loopM (f89_E k c71 c88) f89_cw1 (kont (f89_E k c71 c88) f89_code [1, 1, 0] (endK (f89_E k c71 c88) Try.f89 [2000000] f89_un retF)) k (f89_hw1_0 p1 p2)
noncomputable def f89_w1b0 (c71 : PV → PV → (PV → Bool → PV → R) → R) (c88 : PV → (Bool → Bool → PV → R) → R) (ret0 : PV → Bool → PV → R) (next_w1_0 : Unit → R) (next_w1_1 : (List PV) → PV → R) (p1 : PV) (p2 : PV) : R :=
  c88 p2 fun b9 b10 p11 =>
  bif ((!b10) == false) then
    bif b9 then
      ret0 (PV.agg [(PV.int 6), (PV.int 0), (PV.list [])]) b10 p11
    else c71 p1 p11 fun p12 b13 p14 =>
    bif ((!b13) == false) then
      bif (decide ((List.length (PV.els (PV.fld p14 1)) : Int) = (List.length (PV.els (PV.fld p11 1)) : Int))) then
        ret0 (PV.agg [(PV.int 0), (PV.int 0), (PV.list [])]) false p14
      else next_w1_1 [p12] p14
    else ret0 (PV.agg [(PV.int 0), (PV.int 0), (PV.list [])]) false p14
  else ret0 (PV.agg [(PV.int 6), (PV.int 0), (PV.list [])]) b10 p11

theorem f89_w1b0_mem (k : Nat) (c71 : PV → PV → (PV → Bool → PV → R) → R) (c88 : PV → (Bool → Bool → PV → R) → R) (retF : PV × Bool × PV → R) (NX_w1 : St → R) (p1 : PV) (p2 : PV) : exec (f89_E k c71 c88) f89_cw1 (purgeK (f89_E k c71 c88) f89_cw1 (loopK NX_w1 (kont (f89_E k c71 c88) f89_code [1, 1, 0] (endK (f89_E k c71 c88) Try.f89 [2000000] f89_un retF)))) (f89_hw1_0 p1 p2) = f89_w1b0 c71 c88 (fun y0 y1 y2 => retF (y0, y1, y2)) (fun _ => NX_w1 (f89_hw1_0 p1 p2)) (fun l15 p16 => NX_w1 (f89_hw1_1 p1 l15 p16)) p1 p2 := by kernel_rfl

noncomputable def f89_w1b0N (k : Nat) (c71 : PV → PV → (PV → Bool → PV → R) → R) (c88 : PV → (Bool → Bool → PV → R) → R) (ret0 : PV → Bool → PV → R) (next_w1_0 : Unit → R) (next_w1_1 : (List PV) → PV → R) (p1 : PV) (p2 : PV) : R :=
  f89_w1b0 c71 c88 ret0 next_w1_0 next_w1_1 p1 p2
theorem f89_w1b0_eq (k : Nat) (c71 : PV → PV → (PV → Bool → PV → R) → R) (c88 : PV → (Bool → Bool → PV → R) → R) (retF : PV × Bool × PV → R) (NX_w1 : St → R) (p1 : PV) (p2 : PV) : exec (f89_E k c71 c88) f89_cw1 (purgeK (f89_E k c71 c88) f89_cw1 (loopK NX_w1 (kont (f89_E k c71 c88) f89_code [1, 1, 0] (endK (f89_E k c71 c88) Try.f89 [2000000] f89_un retF)))) (f89_hw1_0 p1 p2) = f89_w1b0N k c71 c88 (fun y0 y1 y2 => retF (y0, y1, y2)) (fun _ => NX_w1 (f89_hw1_0 p1 p2)) (fun l15 p16 => NX_w1 (f89_hw1_1 p1 l15 p16)) p1 p2 :=
  (f89_w1b0_mem k c71 c88 retF NX_w1 p1 p2)

noncomputable def f89_w1b1 (c71 : PV → PV → (PV → Bool → PV → R) → R) (c88 : PV → (Bool → Bool → PV → R) → R) (ret0 : PV → Bool → PV → R) (next_w1_0 : Unit → R) (next_w1_1 : (List PV) → PV → R) (p1 : PV) (p2 : PV) (l15 : List PV) (p16 : PV) : R :=
  c88 p16 fun b17 b18 p19 =>
  bif ((!b18) == false) then
    bif b17 then
      ret0 (PV.agg [(PV.int 6), (PV.int 0), (PV.list l15)]) b18 p19
    else c71 p1 p19 fun p20 b21 p22 =>
    bif ((!b21) == false) then
      bif (decide ((List.length (PV.els (PV.fld p22 1)) : Int) = (List.length (PV.els (PV.fld p19 1)) : Int))) then
        ret0 (PV.agg [(PV.int 0), (PV.int 0), (PV.list [])]) false p22
      else bif (true && roomy (List.length l15 + List.length [p20]) 40) then
        next_w1_1 (l15 ++ [p20]) p22
      else none
    else ret0 (PV.agg [(PV.int 0), (PV.int 0), (PV.list [])]) false p22
  else ret0 (PV.agg [(PV.int 6), (PV.int 0), (PV.list l15)]) b18 p19

theorem f89_w1b1_mem (k : Nat) (c71 : PV → PV → (PV → Bool → PV → R) → R) (c88 : PV → (Bool → Bool → PV → R) → R) (retF : PV × Bool × PV → R) (NX_w1 : St → R) (p1 : PV) (p2 : PV) (l15 : List PV) (p16 : PV) : exec (f89_E k c71 c88) f89_cw1 (purgeK (f89_E k c71 c88) f89_cw1 (loopK NX_w1 (kont (f89_E k c71 c88) f89_code [1, 1, 0] (endK (f89_E k c71 c88) Try.f89 [2000000] f89_un retF)))) (f89_hw1_1 p1 l15 p16) = f89_w1b1 c71 c88 (fun y0 y1 y2 => retF (y0, y1, y2)) (fun _ => NX_w1 (f89_hw1_0 p1 p2)) (fun l15 p16 => NX_w1 (f89_hw1_1 p1 l15 p16)) p1 p2 l15 p16 := by kernel_rfl

noncomputable def f89_w1b1N (k : Nat) (c71 : PV → PV → (PV → Bool → PV → R) → R) (c88 : PV → (Bool → Bool → PV → R) → R) (ret0 : PV → Bool → PV → R) (next_w1_0 : Unit → R) (next_w1_1 : (List PV) → PV → R) (p1 : PV) (p2 : PV) (l15 : List PV) (p16 : PV) : R :=
  f89_w1b1 c71 c88 ret0 next_w1_0 next_w1_1 p1 p2 l15 p16
theorem f89_w1b1_eq (k : Nat) (c71 : PV → PV → (PV → Bool → PV → R) → R) (c88 : PV → (Bool → Bool → PV → R) → R) (retF : PV × Bool × PV → R) (NX_w1 : St → R) (p1 : PV) (p2 : PV) (l15 : List PV) (p16 : PV) : exec (f89_E k c71 c88) f89_cw1 (purgeK (f89_E k c71 c88) f89_cw1 (loopK NX_w1 (kont (f89_E k c71 c88) f89_code [1, 1, 0] (endK (f89_E k c71 c88) Try.f89 [2000000] f89_un retF)))) (f89_hw1_1 p1 l15 p16) = f89_w1b1N k c71 c88 (fun y0 y1 y2 => retF (y0, y1, y2)) (fun _ => NX_w1 (f89_hw1_0 p1 p2)) (fun l15 p16 => NX_w1 (f89_hw1_1 p1 l15 p16)) p1 p2 l15 p16 :=
  (f89_w1b1_mem k c71 c88 retF NX_w1 p1 p2 l15 p16)

noncomputable def f89_w1B (k : Nat) (c71 : PV → PV → (PV → Bool → PV → R) → R) (c88 : PV → (Bool → Bool → PV → R) → R) (ret0 : PV → Bool → PV → R) (p1 : PV) (p2 : PV) (nx : Sum (Unit) ((List PV) × PV) → R) : Sum (Unit) ((List PV) × PV) → R := (Sum.elim (fun s => f89_w1b0N k c71 c88 ret0 (fun _ => nx (.inl ())) (fun l15 p16 => nx (.inr (l15, p16))) p1 p2) (fun s => f89_w1b1N k c71 c88 ret0 (fun _ => nx (.inl ())) (fun l15 p16 => nx (.inr (l15, p16))) p1 p2 s.1 s.2))
noncomputable def f89_w1N (k : Nat) (c71 : PV → PV → (PV → Bool → PV → R) → R) (c88 : PV → (Bool → Bool → PV → R) → R) (ret0 : PV → Bool → PV → R) (p1 : PV) (p2 : PV) : R := loopR (f89_w1B k c71 c88 ret0 p1 p2) k (.inl ())
theorem f89_w1_eq (k : Nat) (c71 : PV → PV → (PV → Bool → PV → R) → R) (c88 : PV → (Bool → Bool → PV → R) → R) (retF : PV × Bool × PV → R) (p1 : PV) (p2 : PV) : f89_w1A k c71 c88 retF p1 p2 = f89_w1N k c71 c88 (fun y0 y1 y2 => retF (y0, y1, y2)) p1 p2 :=
  Eq.mp (by kernel_rfl) (loop_sim (E := (f89_E k c71 c88)) (c := f89_cw1) (K := (kont (f89_E k c71 c88) f89_code [1, 1, 0] (endK (f89_E k c71 c88) Try.f89 [2000000] f89_un retF))) (S := Sum (Unit) ((List PV) × PV)) (Sum.elim (fun s => f89_hw1_0 p1 p2) (fun s => f89_hw1_1 p1 s.1 s.2)) (f89_w1B k c71 c88 (fun y0 y1 y2 => retF (y0, y1, y2)) p1 p2) (fun NX s => by
    cases s with
    | inl s => exact Eq.mp (by kernel_rfl) (f89_w1b0_eq k c71 c88 retF NX p1 p2)
    | inr s =>
      exact Eq.mp (by kernel_rfl) (f89_w1b1_eq k c71 c88 retF NX p1 p2 s.1 s.2)) k (.inl ()))

noncomputable def f89_e (c71 : PV → PV → (PV → Bool → PV → R) → R) (c88 : PV → (Bool → Bool → PV → R) → R) (ret0 : PV → Bool → PV → R) (w1 : Unit → R) (p1 : PV) (p2 : PV) : R :=
  w1 ()

theorem f89_e_mem (k : Nat) (c71 : PV → PV → (PV → Bool → PV → R) → R) (c88 : PV → (Bool → Bool → PV → R) → R) (retF : PV × Bool × PV → R) (p1 : PV) (p2 : PV) : exec (f89_E k c71 c88) f89_code (endK (f89_E k c71 c88) Try.f89 [2000000] f89_un retF) ⟨[.ptr 2000000 [], .val 27 p1, .undef, .undef, .undef, .undef, .undef, .undef, .undef, .undef, .undef, .undef, .undef, .undef, .undef, .undef, .undef, .undef, .undef, .undef, .undef, .undef, .undef, .undef, .undef, .undef, .undef, .undef, .undef, .undef, .undef, .undef, .undef, .undef, .undef, .undef, .undef, .undef, .undef, .undef, .undef, .undef, .undef, .undef, .undef, .undef, .undef, .undef, .undef, .undef, .undef, .undef, .undef], [(2000000, .box 90 (.val 90 p2))]⟩ = f89_e c71 c88 (fun y0 y1 y2 => retF (y0, y1, y2)) (fun _ => f89_w1A k c71 c88 retF p1 p2) p1 p2 := by kernel_rfl

noncomputable def f89_N (k : Nat) (c71 : PV → PV → (PV → Bool → PV → R) → R) (c88 : PV → (Bool → Bool → PV → R) → R) (ret0 : PV → Bool → PV → R) (p1 : PV) (p2 : PV) : R :=
  f89_e c71 c88 ret0 (fun _ => f89_w1N k c71 c88 ret0 p1 p2) p1 p2
theorem f89_eq (k : Nat) (c71 : PV → PV → (PV → Bool → PV → R) → R) (c88 : PV → (Bool → Bool → PV → R) → R) (retF : PV × Bool × PV → R) (p1 : PV) (p2 : PV) : exec (f89_E k c71 c88) f89_code (endK (f89_E k c71 c88) Try.f89 [2000000] f89_un retF) ⟨[.ptr 2000000 [], .val 27 p1, .undef, .undef, .undef, .undef, .undef, .undef, .undef, .undef, .undef, .undef, .undef, .undef, .undef, .undef, .undef, .undef, .undef, .undef, .undef, .undef, .undef, .undef, .undef, .undef, .undef, .undef, .undef, .undef, .undef, .undef, .undef, .undef, .undef, .undef, .undef, .undef, .undef, .undef, .undef, .undef, .undef, .undef, .undef, .undef, .undef, .undef, .undef, .undef, .undef, .undef, .undef], [(2000000, .box 90 (.val 90 p2))]⟩ = f89_N k c71 c88 (fun y0 y1 y2 => retF (y0, y1, y2)) p1 p2 :=
  (f89_e_mem k c71 c88 retF p1 p2).trans (by rw [show (fun _ => f89_w1A k c71 c88 retF p1 p2) = (fun _ => f89_w1N k c71 c88 (fun y0 y1 y2 => retF (y0, y1, y2)) p1 p2) from funext fun _ => f89_w1_eq k c71 c88 retF p1 p2]; rfl)

noncomputable def f87_msk : Nat → Option (List Nat) := fun key => bif key == 9 then some [0, 6, 8, 15, 16, 17] else none
noncomputable def f87_C (c71 : PV → PV → (PV → Bool → PV → R) → R) : Oracle := orc 71 f71_D f71_O (fun x ret => c71 x.1 x.2 (fun y0 y1 y2 => ret (y0, y1, y2))) <| orc0
noncomputable def f87_E (k : Nat) (c71 : PV → PV → (PV → Bool → PV → R) → R) : Env := { P := Try.prog, nilOwn := fun d => false, fldOwn := fun d i => (d == 14 && i == 2) || (d == 29 && i == 2), ownPar := ownPars, ownRet := false, mask := f87_msk, fuel := k, C := f87_C c71 }
noncomputable def f87_code : Code := Try.f87.body.getD .skip
noncomputable def f87_cw1 : Code := subC f87_code [1, 1, 0, 1, 0, 0]
noncomputable def f87_hw1_0 (n1 : Int) (p2 : PV) (p3 : PV) : St := ⟨[.ptr 2000000 [], .dead, .dead, .dead, .dead, .dead, .ptr 6 [], .dead, .ptr 8 [], .dead, .dead, .dead, .dead, .dead, .dead, .val 25 p2, .int .i64 (List.length (PV.els p2) : Int), .int .i64 0, .dead, .dead, .dead, .dead, .dead, .dead, .dead, .dead, .dead, .dead, .dead, .dead, .dead, .dead, .dead, .dead, .dead, .dead, .dead, .dead], [(6, .box 30 (.val 30 (PV.agg [(PV.int 0), (PV.int 0), (PV.list [])]))), (8, .box 30 (.agg 30 [.int .i64 n1, .int .u8 0, .nils])), (2000000, .box 90 (.val 90 p3))]⟩
noncomputable def f87_hw1_1 (n1 : Int) (p2 : PV) (n18 : Int) (l19 : List PV) (p20 : PV) : St := ⟨[.ptr 2000000 [], .dead, .dead, .dead, .dead, .dead, .ptr 6 [], .dead, .ptr 8 [], .dead, .dead, .dead, .dead, .dead, .dead, .val 25 p2, .int .i64 (List.length (PV.els p2) : Int), .int .i64 n18, .dead, .dead, .dead, .dead, .dead, .dead, .dead, .dead, .dead, .dead, .dead, .dead, .dead, .dead, .dead, .dead, .dead, .dead, .dead, .dead], [(6, .box 30 (.val 30 (PV.agg [(PV.int 0), (PV.int 0), (PV.list [])]))), (8, .box 30 (.agg 30 [.int .i64 n1, .int .u8 0, .own 28 34])), (34, .row 30 l19), (2000000, .box 90 (.val 90 p20))]⟩
noncomputable def f87_w1A (k : Nat) (c71 : PV → PV → (PV → Bool → PV → R) → R) (retF : PV × Bool × PV → R) (n1 : Int) (p2 : PV) (p3 : PV) : R := loopM (f87_E k c71) f87_cw1 (kont (f87_E k c71) f87_code [1, 1, 0, 1, 0] (endK (f87_E k c71) Try.f87 [2000000] f87_un retF)) k (f87_hw1_0 n1 p2 p3)
noncomputable def f87_w1b0 (c71 : PV → PV → (PV → Bool → PV → R) → R) (ret0 : PV → Bool → PV → R) (next_w1_0 : Unit → R) (next_w1_1 : Int → (List PV) → PV → R) (n1 : Int) (p2 : PV) (p3 : PV) : R :=
  bif (decide ((0 : Int) < (List.length (PV.els p2) : Int))) then
    bif (true && decide ((0 : Int) ≤ (0 : Int)) && decide ((0 : Int) < (List.length (PV.els p2) : Int))) then
      c71 (List.getD (PV.els p2) ((0 : Int)).toNat PV.nil) p3 fun p15 b16 p17 =>
      bif (!b16) then
        ret0 (PV.agg [(PV.int 0), (PV.int 0), (PV.list [])]) false p17
      else next_w1_1 1 [p15] p17
    else none
  else ret0 (PV.agg [(PV.int n1), (PV.int 0), (PV.list [])]) true p3

theorem f87_w1b0_mem (k : Nat) (c71 : PV → PV → (PV → Bool → PV → R) → R) (retF : PV × Bool × PV → R) (NX_w1 : St → R) (n1 : Int) (p2 : PV) (p3 : PV) : exec (f87_E k c71) f87_cw1 (purgeK (f87_E k c71) f87_cw1 (loopK NX_w1 (kont (f87_E k c71) f87_code [1, 1, 0, 1, 0] (endK (f87_E k c71) Try.f87 [2000000] f87_un retF)))) (f87_hw1_0 n1 p2 p3) = f87_w1b0 c71 (fun y0 y1 y2 => retF (y0, y1, y2)) (fun _ => NX_w1 (f87_hw1_0 n1 p2 p3)) (fun n18 l19 p20 => NX_w1 (f87_hw1_1 n1 p2 n18 l19 p20)) n1 p2 p3 := by kernel_rfl

noncomputable def f87_w1b0N (k : Nat) (c71 : PV → PV → (PV → Bool → PV → R) → R) (ret0 : PV → Bool → PV → R) (next_w1_0 : Unit → R) (next_w1_1 : Int → (List PV) → PV → R) (n1 : Int) (p2 : PV) (p3 : PV) : R :=
  f87_w1b0 c71 ret0 next_w1_0 next_w1_1 n1 p2 p3
theorem f87_w1b0_eq (k : Nat) (c71 : PV → PV → (PV → Bool → PV → R) → R) (retF : PV × Bool × PV → R) (NX_w1 : St → R) (n1 : Int) (p2 : PV) (p3 : PV) : exec (f87_E k c71) f87_cw1 (purgeK (f87_E k c71) f87_cw1 (loopK NX_w1 (kont (f87_E k c71) f87_code [1, 1, 0, 1, 0] (endK (f87_E k c71) Try.f87 [2000000] f87_un retF)))) (f87_hw1_0 n1 p2 p3) = f87_w1b0N k c71 (fun y0 y1 y2 => retF (y0, y1, y2)) (fun _ => NX_w1 (f87_hw1_0 n1 p2 p3)) (fun n18 l19 p20 => NX_w1 (f87_hw1_1 n1 p2 n18 l19 p20)) n1 p2 p3 :=
  (f87_w1b0_mem k c71 retF NX_w1 n1 p2 p3)

noncomputable def f87_w1b1 (c71 : PV → PV → (PV → Bool → PV → R) → R) (ret0 : PV → Bool → PV → R) (next_w1_0 : Unit → R) (next_w1_1 : Int → (List PV) → PV → R) (n1 : Int) (p2 : PV) (p3 : PV) (n18 : Int) (l19 : List PV) (p20 : PV) : R :=
  bif (decide (n18 < (List.length (PV.els p2) : Int))) then
    bif (true && decide ((0 : Int) ≤ n18) && decide (n18 < (List.length (PV.els p2) : Int))) then
      c71 (List.getD (PV.els p2) (n18).toNat PV.nil) p20 fun p21 b22 p23 =>
      bif (!b22) then
        ret0 (PV.agg [(PV.int 0), (PV.int 0), (PV.list [])]) false p23
      else bif (true && roomy (List.length l19 + List.length [p21]) 40) then
        next_w1_1 (IntKind.wrap .i64 (n18 + (1 : Int))) (l19 ++ [p21]) p23
      else none
    else none
  else ret0 (PV.agg [(PV.int n1), (PV.int 0), (PV.list l19)]) true p20

theorem f87_w1b1_mem (k : Nat) (c71 : PV → PV → (PV → Bool → PV → R) → R) (retF : PV × Bool × PV → R) (NX_w1 : St → R) (n1 : Int) (p2 : PV) (p3 : PV) (n18 : Int) (l19 : List PV) (p20 : PV) : exec (f87_E k c71) f87_cw1 (purgeK (f87_E k c71) f87_cw1 (loopK NX_w1 (kont (f87_E k c71) f87_code [1, 1, 0, 1, 0] (endK (f87_E k c71) Try.f87 [2000000] f87_un retF)))) (f87_hw1_1 n1 p2 n18 l19 p20) = f87_w1b1 c71 (fun y0 y1 y2 => retF (y0, y1, y2)) (fun _ => NX_w1 (f87_hw1_0 n1 p2 p3)) (fun n18 l19 p20 => NX_w1 (f87_hw1_1 n1 p2 n18 l19 p20)) n1 p2 p3 n18 l19 p20 := by kernel_rfl

noncomputable def f87_w1b1N (k : Nat) (c71 : PV → PV → (PV → Bool → PV → R) → R) (ret0 : PV → Bool → PV → R) (next_w1_0 : Unit → R) (next_w1_1 : Int → (List PV) → PV → R) (n1 : Int) (p2 : PV) (p3 : PV) (n18 : Int) (l19 : List PV) (p20 : PV) : R :=
  f87_w1b1 c71 ret0 next_w1_0 next_w1_1 n1 p2 p3 n18 l19 p20
theorem f87_w1b1_eq (k : Nat) (c71 : PV → PV → (PV → Bool → PV → R) → R) (retF : PV × Bool × PV → R) (NX_w1 : St → R) (n1 : Int) (p2 : PV) (p3 : PV) (n18 : Int) (l19 : List PV) (p20 : PV) : exec (f87_E k c71) f87_cw1 (purgeK (f87_E k c71) f87_cw1 (loopK NX_w1 (kont (f87_E k c71) f87_code [1, 1, 0, 1, 0] (endK (f87_E k c71) Try.f87 [2000000] f87_un retF)))) (f87_hw1_1 n1 p2 n18 l19 p20) = f87_w1b1N k c71 (fun y0 y1 y2 => retF (y0, y1, y2)) (fun _ => NX_w1 (f87_hw1_0 n1 p2 p3)) (fun n18 l19 p20 => NX_w1 (f87_hw1_1 n1 p2 n18 l19 p20)) n1 p2 p3 n18 l19 p20 :=
  (f87_w1b1_mem k c71 retF NX_w1 n1 p2 p3 n18 l19 p20)

noncomputable def f87_w1B (k : Nat) (c71 : PV → PV → (PV → Bool → PV → R) → R) (ret0 : PV → Bool → PV → R) (n1 : Int) (p2 : PV) (p3 : PV) (nx : Sum (Unit) (Int × (List PV) × PV) → R) : Sum (Unit) (Int × (List PV) × PV) → R := (Sum.elim (fun s => f87_w1b0N k c71 ret0 (fun _ => nx (.inl ())) (fun n18 l19 p20 => nx (.inr (n18, l19, p20))) n1 p2 p3) (fun s => f87_w1b1N k c71 ret0 (fun _ => nx (.inl ())) (fun n18 l19 p20 => nx (.inr (n18, l19, p20))) n1 p2 p3 s.1 s.2.1 s.2.2))
noncomputable def f87_w1N (k : Nat) (c71 : PV → PV → (PV → Bool → PV → R) → R) (ret0 : PV → Bool → PV → R) (n1 : Int) (p2 : PV) (p3 : PV) : R := loopR (f87_w1B k c71 ret0 n1 p2 p3) k (.inl ())
theorem f87_w1_eq (k : Nat) (c71 : PV → PV → (PV → Bool → PV → R) → R) (retF : PV × Bool × PV → R) (n1 : Int) (p2 : PV) (p3 : PV) : f87_w1A k c71 retF n1 p2 p3 = f87_w1N k c71 (fun y0 y1 y2 => retF (y0, y1, y2)) n1 p2 p3 :=
  Eq.mp (by kernel_rfl) (loop_sim (E := (f87_E k c71)) (c := f87_cw1) (K := (kont (f87_E k c71) f87_code [1, 1, 0, 1, 0] (endK (f87_E k c71) Try.f87 [2000000] f87_un retF))) (S := Sum (Unit) (Int × (List PV) × PV)) (Sum.elim (fun s => f87_hw1_0 n1 p2 p3) (fun s => f87_hw1_1 n1 p2 s.1 s.2.1 s.2.2)) (f87_w1B k c71 (fun y0 y1 y2 => retF (y0, y1, y2)) n1 p2 p3) (fun NX s => by
    cases s with
    | inl s => exact Eq.mp (by kernel_rfl) (f87_w1b0_eq k c71 retF NX n1 p2 p3)
    | inr s =>
      exact Eq.mp (by kernel_rfl) (f87_w1b1_eq k c71 retF NX n1 p2 p3 s.1 s.2.1 s.2.2)) k (.inl ()))

noncomputable def f87_e (c71 : PV → PV → (PV → Bool → PV → R) → R) (ret0 : PV → Bool → PV → R) (w1 : Unit → R) (n1 : Int) (p2 : PV) (p3 : PV) : R :=
  w1 ()

theorem f87_e_mem (k : Nat) (c71 : PV → PV → (PV → Bool → PV → R) → R) (retF : PV × Bool × PV → R) (n1 : Int) (p2 : PV) (p3 : PV) : exec (f87_E k c71) f87_code (endK (f87_E k c71) Try.f87 [2000000] f87_un retF) ⟨[.ptr 2000000 [], .int .i64 n1, .val 25 p2, .undef, .undef, .undef, .undef, .undef, .undef, .undef, .undef, .undef, .undef, .undef, .undef, .undef, .undef, .undef, .undef, .undef, .undef, .undef, .undef, .undef, .undef, .undef, .undef, .undef, .undef, .undef, .undef, .undef, .undef, .undef, .undef, .undef, .undef, .undef], [(2000000, .box 90 (.val 90 p3))]⟩ = f87_e c71 (fun y0 y1 y2 => retF (y0, y1, y2)) (fun _ => f87_w1A k c71 retF n1 p2 p3) n1 p2 p3 := by kernel_rfl

noncomputable def f87_N (k : Nat) (c71 : PV → PV → (PV → Bool → PV → R) → R) (ret0 : PV → Bool → PV → R) (n1 : Int) (p2 : PV) (p3 : PV) : R :=
  f87_e c71 ret0 (fun _ => f87_w1N k c71 ret0 n1 p2 p3) n1 p2 p3
theorem f87_eq (k : Nat) (c71 : PV → PV → (PV → Bool → PV → R) → R) (retF : PV × Bool × PV → R) (n1 : Int) (p2 : PV) (p3 : PV) : exec (f87_E k c71) f87_code (endK (f87_E k c71) Try.f87 [2000000] f87_un retF) ⟨[.ptr 2000000 [], .int .i64 n1, .val 25 p2, .undef, .undef, .undef, .undef, .undef, .undef, .undef, .undef, .undef, .undef, .undef, .undef, .undef, .undef, .undef, .undef, .undef, .undef, .undef, .undef, .undef, .undef, .undef, .undef, .undef, .undef, .undef, .undef, .undef, .undef, .undef, .undef, .undef, .undef, .undef], [(2000000, .box 90 (.val 90 p3))]⟩ = f87_N k c71 (fun y0 y1 y2 => retF (y0, y1, y2)) n1 p2 p3 :=
  (f87_e_mem k c71 retF n1 p2 p3).trans (by rw [show (fun _ => f87_w1A k c71 retF n1 p2 p3) = (fun _ => f87_w1N k c71 (fun y0 y1 y2 => retF (y0, y1, y2)) n1 p2 p3) from funext fun _ => f87_w1_eq k c71 retF n1 p2 p3]; rfl)

noncomputable def f71_msk : Nat → Option (List Nat) := fun key =>  none
noncomputable def f71_C (c71 : PV → PV → (PV → Bool → PV → R) → R) (c79 : PV → Int → (Bool → R) → R) (c87 : Int → PV → PV → (PV → Bool → PV → R) → R) (c88 : PV → (Bool → Bool → PV → R) → R) (c89 : PV → PV → (PV → Bool → PV → R) → R) : Oracle := orc 71 f71_D f71_O (fun x ret => c71 x.1 x.2 (fun y0 y1 y2 => ret (y0, y1, y2))) <| orc 79 f79_D f79_O (fun x ret => c79 x.1 x.2 (fun y0 => ret y0)) <| orc 87 f87_D f87_O (fun x ret => c87 x.1 x.2.1 x.2.2 (fun y0 y1 y2 => ret (y0, y1, y2))) <| orc 88 f88_D f88_O (fun x ret => c88 x (fun y0 y1 y2 => ret (y0, y1, y2))) <| orc 89 f89_D f89_O (fun x ret => c89 x.1 x.2 (fun y0 y1 y2 => ret (y0, y1, y2))) <| orc0
noncomputable def f71_E (k : Nat) (c71 : PV → PV → (PV → Bool → PV → R) → R) (c79 : PV → Int → (Bool → R) → R) (c87 : Int → PV → PV → (PV → Bool → PV → R) → R) (c88 : PV → (Bool → Bool → PV → R) → R) (c89 : PV → PV → (PV → Bool → PV → R) → R) : Env := { P := Try.prog, nilOwn := fun d => false, fldOwn := fun d i => false, ownPar := ownPars, ownRet := false, mask := f71_msk, fuel := k, C := f71_C c71 c79 c87 c88 c89 }
noncomputable def f71_code : Code := Try.f71.body.getD .skip
noncomputable def f71_e (c71 : PV → PV → (PV → Bool → PV → R) → R) (c79 : PV → Int → (Bool → R) → R) (c87 : Int → PV → PV → (PV → Bool → PV → R) → R) (c88 : PV → (Bool → Bool → PV → R) → R) (c89 : PV → PV → (PV → Bool → PV → R) → R) (ret0 : PV → Bool → PV → R) (p1 : PV) (p2 : PV) : R :=
  bif (decide ((PV.num (PV.fld p1 0)) = (1 : Int))) then
    ret0 (PV.agg [(PV.int 1), (PV.int 0), (PV.list [])]) true p2
  else bif (decide ((PV.num (PV.fld p1 0)) = (2 : Int))) then
    bif ((decide ((List.length (PV.els (PV.fld p2 1)) : Int) = (0 : Int))) == false) then
      bif (true && decide ((0 : Int) ≤ (0 : Int)) && decide ((0 : Int) < (List.length (PV.els (PV.fld p2 1)) : Int))) then
        c79 (PV.fld p1 1) (PV.num (List.getD (PV.els (PV.fld p2 1)) ((0 : Int)).toNat PV.nil)) fun b3 =>
        bif (!b3) then
          ret0 (PV.agg [(PV.int 0), (PV.int 0), (PV.list [])]) false p2
        else bif (true && decide ((0 : Int) ≤ (0 : Int)) && decide ((0 : Int) < (List.length (PV.els (PV.fld p2 1)) : Int))) then
          bif (decide ((0 : Int) ≤ (1 : Int)) && decide ((1 : Int) ≤ (List.length (PV.els (PV.fld p2 1)) : Int)) && decide ((List.length (PV.els (PV.fld p2 1)) : Int) ≤ (List.length (PV.els (PV.fld p2 1)) : Int))) then
            let p4 : PV := (PV.agg (List.set (PV.flds p2) 1 (PV.list (List.drop ((1 : Int)).toNat (List.take ((List.length (PV.els (PV.fld p2 1)) : Int)).toNat (PV.els (PV.fld p2 1)))))))
            ret0 (PV.agg [(PV.int 2), (PV.int (PV.num (List.getD (PV.els (PV.fld p2 1)) ((0 : Int)).toNat PV.nil))), (PV.list [])]) true p4
          else none
        else none
      else none
    else ret0 (PV.agg [(PV.int 0), (PV.int 0), (PV.list [])]) false p2
  else bif (decide ((PV.num (PV.fld p1 0)) = (3 : Int))) then
    c87 3 (PV.fld p1 3) p2 fun p5 b6 p7 =>
    ret0 p5 b6 p7
  else bif (decide ((PV.num (PV.fld p1 0)) = (4 : Int))) then
    c88 p2 fun b8 b9 p10 =>
    bif (!b9) then
      ret0 (PV.agg [(PV.int 0), (PV.int 0), (PV.list [])]) false p10
    else bif b8 then
      bif (true && decide ((0 : Int) ≤ (1 : Int)) && decide ((1 : Int) < (List.length (PV.els (PV.fld p1 3)) : Int))) then
        c87 5 (PV.list [(List.getD (PV.els (PV.fld p1 3)) ((1 : Int)).toNat PV.nil)]) p10 fun p11 b12 p13 =>
        ret0 p11 b12 p13
      else none
    else bif (true && decide ((0 : Int) ≤ (0 : Int)) && decide ((0 : Int) < (List.length (PV.els (PV.fld p1 3)) : Int))) then
      c87 4 (PV.list [(List.getD (PV.els (PV.fld p1 3)) ((0 : Int)).toNat PV.nil)]) p10 fun p14 b15 p16 =>
      ret0 p14 b15 p16
    else none
  else bif (decide ((PV.num (PV.fld p1 0)) = (5 : Int))) then
    bif (true && decide ((0 : Int) ≤ (0 : Int)) && decide ((0 : Int) < (List.length (PV.els (PV.fld p1 3)) : Int))) then
      c89 (List.getD (PV.els (PV.fld p1 3)) ((0 : Int)).toNat PV.nil) p2 fun p17 b18 p19 =>
      ret0 p17 b18 p19
    else none
  else bif (decide ((PV.num (PV.fld p1 0)) = (6 : Int))) then
    bif (true && decide ((0 : Int) ≤ (0 : Int)) && decide ((0 : Int) < (List.length (PV.els (PV.fld p1 3)) : Int))) then
      c87 7 (PV.list [(List.getD (PV.els (PV.fld p1 3)) ((0 : Int)).toNat PV.nil)]) p2 fun p20 b21 p22 =>
      ret0 p20 b21 p22
    else none
  else bif (decide ((PV.num (PV.fld p1 0)) = (7 : Int))) then
    bif (true && decide ((0 : Int) ≤ (0 : Int)) && decide ((0 : Int) < (List.length (PV.els (PV.fld p1 3)) : Int))) then
      c71 (List.getD (PV.els (PV.fld p1 3)) ((0 : Int)).toNat PV.nil) p2 fun p23 b24 p25 =>
      ret0 p23 b24 p25
    else none
  else ret0 (PV.agg [(PV.int 0), (PV.int 0), (PV.list [])]) false p2

theorem f71_e_mem (k : Nat) (c71 : PV → PV → (PV → Bool → PV → R) → R) (c79 : PV → Int → (Bool → R) → R) (c87 : Int → PV → PV → (PV → Bool → PV → R) → R) (c88 : PV → (Bool → Bool → PV → R) → R) (c89 : PV → PV → (PV → Bool → PV → R) → R) (retF : PV × Bool × PV → R) (p1 : PV) (p2 : PV) : exec (f71_E k c71 c79 c87 c88 c89) f71_code (endK (f71_E k c71 c79 c87 c88 c89) Try.f71 [2000000] f71_un retF) ⟨[.ptr 2000000 [], .val 27 p1, .undef, .undef, .undef, .undef, .undef, .undef, .undef, .undef, .undef, .undef, .undef, .undef, .undef, .undef, .undef, .undef, .undef, .undef, .undef, .undef, .undef, .undef, .undef, .undef, .undef, .undef, .undef, .undef, .undef, .undef, .undef, .undef, .undef, .undef, .undef, .undef, .undef, .undef, .undef, .undef, .undef, .undef, .undef, .undef, .undef, .undef, .undef, .undef, .undef, .undef, .undef, .undef, .undef, .undef, .undef, .undef, .undef, .undef, .undef, .undef, .undef, .undef, .undef, .undef, .undef, .undef, .undef, .undef, .undef, .undef, .undef, .undef, .undef, .undef, .undef, .undef, .undef, .undef, .undef, .undef, .undef, .undef, .undef, .undef, .undef, .undef, .undef, .undef, .undef, .undef, .undef, .undef, .undef, .undef, .undef, .undef, .undef, .undef, .undef, .undef, .undef, .undef, .undef, .undef, .undef, .undef, .undef, .undef, .undef, .undef, .undef, .undef, .undef, .undef, .undef, .undef, .undef, .undef, .undef, .undef], [(2000000, .box 90 (.val 90 p2))]⟩ = f71_e c71 c79 c87 c88 c89 (fun y0 y1 y2 => retF (y0, y1, y2)) p1 p2 := by kernel_rfl

noncomputable def f71_N (k : Nat) (c71 : PV → PV → (PV → Bool → PV → R) → R) (c79 : PV → Int → (Bool → R) → R) (c87 : Int → PV → PV → (PV → Bool → PV → R) → R) (c88 : PV → (Bool → Bool → PV → R) → R) (c89 : PV → PV → (PV → Bool → PV → R) → R) (ret0 : PV → Bool → PV → R) (p1 : PV) (p2 : PV) : R :=
  f71_e c71 c79 c87 c88 c89 ret0 p1 p2
theorem f71_eq (k : Nat) (c71 : PV → PV → (PV → Bool → PV → R) → R) (c79 : PV → Int → (Bool → R) → R) (c87 : Int → PV → PV → (PV → Bool → PV → R) → R) (c88 : PV → (Bool → Bool → PV → R) → R) (c89 : PV → PV → (PV → Bool → PV → R) → R) (retF : PV × Bool × PV → R) (p1 : PV) (p2 : PV) : exec (f71_E k c71 c79 c87 c88 c89) f71_code (endK (f71_E k c71 c79 c87 c88 c89) Try.f71 [2000000] f71_un retF) ⟨[.ptr 2000000 [], .val 27 p1, .undef, .undef, .undef, .undef, .undef, .undef, .undef, .undef, .undef, .undef, .undef, .undef, .undef, .undef, .undef, .undef, .undef, .undef, .undef, .undef, .undef, .undef, .undef, .undef, .undef, .undef, .undef, .undef, .undef, .undef, .undef, .undef, .undef, .undef, .undef, .undef, .undef, .undef, .undef, .undef, .undef, .undef, .undef, .undef, .undef, .undef, .undef, .undef, .undef, .undef, .undef, .undef, .undef, .undef, .undef, .undef, .undef, .undef, .undef, .undef, .undef, .undef, .undef, .undef, .undef, .undef, .undef, .undef, .undef, .undef, .undef, .undef, .undef, .undef, .undef, .undef, .undef, .undef, .undef, .undef, .undef, .undef, .undef, .undef, .undef, .undef, .undef, .undef, .undef, .undef, .undef, .undef, .undef, .undef, .undef, .undef, .undef, .undef, .undef, .undef, .undef, .undef, .undef, .undef, .undef, .undef, .undef, .undef, .undef, .undef, .undef, .undef, .undef, .undef, .undef, .undef, .undef, .undef, .undef, .undef], [(2000000, .box 90 (.val 90 p2))]⟩ = f71_N k c71 c79 c87 c88 c89 (fun y0 y1 y2 => retF (y0, y1, y2)) p1 p2 :=
  (f71_e_mem k c71 c79 c87 c88 c89 retF p1 p2)

mutual
noncomputable def G89 : Nat → PV → PV → (PV → Bool → PV → R) → R
  | 0, _, _, _ => none
  | k + 1, p1, p2, ret0 => f89_N k (G71 k) (G88 k) ret0 p1 p2
noncomputable def G87 : Nat → Int → PV → PV → (PV → Bool → PV → R) → R
  | 0, _, _, _, _ => none
  | k + 1, n1, p2, p3, ret0 => f87_N k (G71 k) ret0 n1 p2 p3
noncomputable def G71 : Nat → PV → PV → (PV → Bool → PV → R) → R
  | 0, _, _, _ => none
  | k + 1, p1, p2, ret0 => f71_N k (G71 k) (G79 k) (G87 k) (G88 k) (G89 k) ret0 p1 p2
end
mutual
theorem S89 : ∀ k, Snd Try.prog 89 f89_I f89_O (fun x ret => G89 k x.1 x.2 (fun y0 y1 y2 => ret (y0, y1, y2)))
  | 0 => snd_none
  | k + 1 => snd_step (E := f89_E k (G71 k) (G88 k)) rfl laidOut noNums (orc_ok (S71 k).o f71_D_ok (orc_ok (S88 k).o f88_D_ok orc0_ok)) (f := 89) (fn := Try.f89) (code := f89_code) Try.func89 (by kernel_rfl) (drawsOk_of laidOut (orc_ok (S71 k).o f71_D_ok (orc_ok (S88 k).o f88_D_ok orc0_ok)) mixed (by kernel_rfl)) f89_un f89_un_ok [2000000] (fun _ => rfl)
      (fun x ret => f89_eq k (G71 k) (G88 k) ret x.1 x.2)
theorem S87 : ∀ k, Snd Try.prog 87 f87_I f87_O (fun x ret => G87 k x.1 x.2.1 x.2.2 (fun y0 y1 y2 => ret (y0, y1, y2)))
  | 0 => snd_none
  | k + 1 => snd_step (E := f87_E k (G71 k)) rfl laidOut noNums (orc_ok (S71 k).o f71_D_ok orc0_ok) (f := 87) (fn := Try.f87) (code := f87_code) Try.func87 (by kernel_rfl) (drawsOk_of laidOut (orc_ok (S71 k).o f71_D_ok orc0_ok) mixed (by kernel_rfl)) f87_un f87_un_ok [2000000] (fun _ => rfl)
      (fun x ret => f87_eq k (G71 k) ret x.1 x.2.1 x.2.2)
theorem S71 : ∀ k, Snd Try.prog 71 f71_I f71_O (fun x ret => G71 k x.1 x.2 (fun y0 y1 y2 => ret (y0, y1, y2)))
  | 0 => snd_none
  | k + 1 => snd_step (E := f71_E k (G71 k) (G79 k) (G87 k) (G88 k) (G89 k)) rfl laidOut noNums (orc_ok (S71 k).o f71_D_ok (orc_ok (S79 k).o f79_D_ok (orc_ok (S87 k).o f87_D_ok (orc_ok (S88 k).o f88_D_ok (orc_ok (S89 k).o f89_D_ok orc0_ok))))) (f := 71) (fn := Try.f71) (code := f71_code) Try.func71 (by kernel_rfl) (drawsOk_of laidOut (orc_ok (S71 k).o f71_D_ok (orc_ok (S79 k).o f79_D_ok (orc_ok (S87 k).o f87_D_ok (orc_ok (S88 k).o f88_D_ok (orc_ok (S89 k).o f89_D_ok orc0_ok))))) mixed (by kernel_rfl)) f71_un f71_un_ok [2000000] (fun _ => rfl)
      (fun x ret => f71_eq k (G71 k) (G79 k) (G87 k) (G88 k) (G89 k) ret x.1 x.2)
end

/- catchpole/bits.Get -/
noncomputable def f43_I : PV × (List Int) × PV → List SV × Obs := fun x => ([.val 27 x.1, .str x.2.1, .val 43 x.2.2], [])
noncomputable def f43_D : List SV → Obs → Option (PV × (List Int) × PV)
  | [.val 27 p1, .str s2, .val 43 p3], [] => some (p1, s2, p3)
  | _, _ => none
theorem f43_D_ok (args : List SV) (B : Obs) (x : PV × (List Int) × PV) (h : f43_D args B = some x) : f43_I x = (args, B) := by
  unfold f43_D at h
  split at h
  · injection h with h; subst h; rfl
  · cases h
noncomputable def f43_O : PV × Int → Out := (fun y => ([.val 30 y.1, .int .i64 y.2], []))
noncomputable def f43_un : Out → Option (PV × Int)
  | ([.val 30 y0, .int .i64 y1], []) => some (y0, y1)
  | _ => none
theorem f43_un_ok (o : Out) (y : PV × Int) (h : f43_un o = some y) : o = f43_O y := by
  unfold f43_un at h
  split at h
  · injection h with h; subst h; rfl
  · cases h
noncomputable def f43_msk : Nat → Option (List Nat) := fun key =>  none
noncomputable def f43_C (c16 : PV → (Bool → R) → R) (c71 : PV → PV → (PV → Bool → PV → R) → R) : Oracle := orc 16 f16_D f16_O (fun x ret => c16 x (fun y0 => ret y0)) <| orc 71 f71_D f71_O (fun x ret => c71 x.1 x.2 (fun y0 y1 y2 => ret (y0, y1, y2))) <| orc0
noncomputable def f43_E (k : Nat) (c16 : PV → (Bool → R) → R) (c71 : PV → PV → (PV → Bool → PV → R) → R) : Env := { P := Try.prog, nilOwn := fun d => false, fldOwn := fun d i => false, ownPar := ownPars, ownRet := false, mask := f43_msk, fuel := k, C := f43_C c16 c71 }
noncomputable def f43_code : Code := Try.f43.body.getD .skip
noncomputable def f43_e (c16 : PV → (Bool → R) → R) (c71 : PV → PV → (PV → Bool → PV → R) → R) (ret0 : PV → Int → R) (p1 : PV) (s2 : List Int) (p3 : PV) : R :=
  c16 p1 fun b4 =>
  bif ((!b4) == false) then
    bif (decide ((256 : Int) < (List.length (PV.els p3) : Int))) then
      ret0 (PV.agg [(PV.int 0), (PV.int 0), (PV.list [])]) 1
    else c71 p1 (PV.agg [(PV.str s2), p3]) fun p5 b6 p7 =>
    bif ((!b6) == false) then
      bif ((!(decide (((PV.chars (PV.fld p7 0)) : List Int) = []))) == false) then
        bif (decide ((0 : Int) < (List.length (PV.els (PV.fld p7 1)) : Int))) then
          ret0 (PV.agg [(PV.int 0), (PV.int 0), (PV.list [])]) 7
        else ret0 p5 0
      else ret0 (PV.agg [(PV.int 0), (PV.int 0), (PV.list [])]) 7
    else ret0 (PV.agg [(PV.int 0), (PV.int 0), (PV.list [])]) 7
  else ret0 (PV.agg [(PV.int 0), (PV.int 0), (PV.list [])]) 1

theorem f43_e_mem (k : Nat) (c16 : PV → (Bool → R) → R) (c71 : PV → PV → (PV → Bool → PV → R) → R) (retF : PV × Int → R) (p1 : PV) (s2 : List Int) (p3 : PV) : exec (f43_E k c16 c71) f43_code (endK (f43_E k c16 c71) Try.f43 [] f43_un retF) ⟨[.val 27 p1, .str s2, .val 43 p3, .undef, .undef, .undef, .undef, .undef, .undef, .undef, .undef, .undef, .undef, .undef, .undef, .undef, .undef, .undef, .undef, .undef, .undef, .undef, .undef, .undef, .undef, .undef, .undef, .undef, .undef, .undef, .undef, .undef, .undef, .undef, .undef, .undef, .undef, .undef, .undef, .undef, .undef, .undef, .undef, .undef, .undef, .undef, .undef, .undef, .undef], []⟩ = f43_e c16 c71 (fun y0 y1 => retF (y0, y1)) p1 s2 p3 := by kernel_rfl

noncomputable def f43_N (k : Nat) (c16 : PV → (Bool → R) → R) (c71 : PV → PV → (PV → Bool → PV → R) → R) (ret0 : PV → Int → R) (p1 : PV) (s2 : List Int) (p3 : PV) : R :=
  f43_e c16 c71 ret0 p1 s2 p3
theorem f43_eq (k : Nat) (c16 : PV → (Bool → R) → R) (c71 : PV → PV → (PV → Bool → PV → R) → R) (retF : PV × Int → R) (p1 : PV) (s2 : List Int) (p3 : PV) : exec (f43_E k c16 c71) f43_code (endK (f43_E k c16 c71) Try.f43 [] f43_un retF) ⟨[.val 27 p1, .str s2, .val 43 p3, .undef, .undef, .undef, .undef, .undef, .undef, .undef, .undef, .undef, .undef, .undef, .undef, .undef, .undef, .undef, .undef, .undef, .undef, .undef, .undef, .undef, .undef, .undef, .undef, .undef, .undef, .undef, .undef, .undef, .undef, .undef, .undef, .undef, .undef, .undef, .undef, .undef, .undef, .undef, .undef, .undef, .undef, .undef, .undef, .undef, .undef], []⟩ = f43_N k c16 c71 (fun y0 y1 => retF (y0, y1)) p1 s2 p3 :=
  (f43_e_mem k c16 c71 retF p1 s2 p3)

noncomputable def G43 : Nat → PV → (List Int) → PV → (PV → Int → R) → R
  | 0, _, _, _, _ => none
  | k + 1, p1, s2, p3, ret0 => f43_N k (G16 k) (G71 k) ret0 p1 s2 p3
theorem S43 : ∀ k, Snd Try.prog 43 f43_I f43_O (fun x ret => G43 k x.1 x.2.1 x.2.2 (fun y0 y1 => ret (y0, y1)))
  | 0 => snd_none
  | k + 1 => snd_step (E := f43_E k (G16 k) (G71 k)) rfl laidOut noNums (orc_ok (S16 k).o f16_D_ok (orc_ok (S71 k).o f71_D_ok orc0_ok)) (f := 43) (fn := Try.f43) (code := f43_code) Try.func43 (by kernel_rfl) (drawsOk_of laidOut (orc_ok (S16 k).o f16_D_ok (orc_ok (S71 k).o f71_D_ok orc0_ok)) mixed (by kernel_rfl)) f43_un f43_un_ok [] (fun _ => rfl)
      (fun x ret => f43_eq k (G16 k) (G71 k) ret x.1 x.2.1 x.2.2)

/- (*strings.Builder).copyCheck -/
noncomputable def f92_I : PV × (List PV) → List SV × Obs := fun x => ([.ptr 2000000 []], [(2000000, .box 76 (.agg 76 [.val 74 x.1, .own 43 2000001])), (2000001, .row 5 x.2)])
noncomputable def f92_D : List SV → Obs → Option (PV × (List PV))
  | [.ptr 2000000 []], [(2000000, .box 76 (.agg 76 [.val 74 p1, .own 43 2000001])), (2000001, .row 5 l2)] => some (p1, l2)
  | _, _ => none
theorem f92_D_ok (args : List SV) (B : Obs) (x : PV × (List PV)) (h : f92_D args B = some x) : f92_I x = (args, B) := by
  unfold f92_D at h
  split at h
  · injection h with h; subst h; rfl
  · cases h
noncomputable def f92_O : (List PV) → Out := (fun y => ([], [(2000000, .box 76 (.agg 76 [.ptr 2000000 [], .own 43 2000001])), (2000001, .row 5 y)]))
noncomputable def f92_un : Out → Option ((List PV))
  | ([], [(2000000, .box 76 (.agg 76 [.ptr 2000000 [], .own 43 2000001])), (2000001, .row 5 y0)]) => some y0
  | _ => none
theorem f92_un_ok (o : Out) (y : (List PV)) (h : f92_un o = some y) : o = f92_O y := by
  unfold f92_un at h
  split at h
  · injection h with h; subst h; rfl
  · cases h

noncomputable def G92 : Nat → PV → (List PV) → ((List PV) → R) → R
  | _, p, l, ret0 => bif PV.isNil p then ret0 l else none
theorem S92 : ∀ k, SndO Try.prog 92 f92_I f92_O (fun x ret => G92 k x.1 x.2 (fun y0 => ret y0)) := fun k => Bld.fresh

/- (*strings.Builder).WriteString -/
noncomputable def f82_I : (List Int) × PV × (List PV) → List SV × Obs := fun x => ([.ptr 2000000 [], .str x.1], [(2000000, .box 76 (.agg 76 [.val 74 x.2.1, .own 43 2000001])), (2000001, .row 5 x.2.2)])
noncomputable def f82_D : List SV → Obs → Option ((List Int) × PV × (List PV))
  | [.ptr 2000000 [], .str s1], [(2000000, .box 76 (.agg 76 [.val 74 p2, .own 43 2000001])), (2000001, .row 5 l3)] => some (s1, p2, l3)
  | _, _ => none
theorem f82_D_ok (args : List SV) (B : Obs) (x : (List Int) × PV × (List PV)) (h : f82_D args B = some x) : f82_I x = (args, B) := by
  unfold f82_D at h
  split at h
  · injection h with h; subst h; rfl
  · cases h
noncomputable def f82_O : Int × PV × (List PV) → Out := (fun y => ([.int .i64 y.1, .val 103 y.2.1], [(2000000, .box 76 (.agg 76 [.ptr 2000000 [], .own 43 2000001])), (2000001, .row 5 y.2.2)]))
noncomputable def f82_un : Out → Option (Int × PV × (List PV))
  | ([.int .i64 y0, .val 103 y1], [(2000000, .box 76 (.agg 76 [.ptr 2000000 [], .own 43 2000001])), (2000001, .row 5 y2)]) => some (y0, y1, y2)
  | _ => none
theorem f82_un_ok (o : Out) (y : Int × PV × (List PV)) (h : f82_un o = some y) : o = f82_O y := by
  unfold f82_un at h
  split at h
  · injection h with h; subst h; rfl
  · cases h
noncomputable def f82_msk : Nat → Option (List Nat) := fun key =>  none
noncomputable def f82_C (c92 : PV → (List PV) → ((List PV) → R) → R) : Oracle := orc 92 f92_D f92_O (fun x ret => c92 x.1 x.2 (fun y0 => ret y0)) <| orc0
noncomputable def f82_E (k : Nat) (c92 : PV → (List PV) → ((List PV) → R) → R) : Env := { P := Try.prog, nilOwn := fun d => false, fldOwn := fun d i => false, ownPar := ownPars, ownRet := false, mask := f82_msk, fuel := k, C := f82_C c92 }
noncomputable def f82_code : Code := Try.f82.body.getD .skip
noncomputable def f82_e (c92 : PV → (List PV) → ((List PV) → R) → R) (ret0 : Int → PV → (List PV) → R) (s1 : List Int) (p2 : PV) (l3 : List PV) : R :=
  c92 p2 l3 fun l4 =>
  bif (true && roomy (List.length l4 + List.length (List.map PV.int s1)) 1) then
    ret0 (List.length s1 : Int) PV.nil (l4 ++ (List.map PV.int s1))
  else none

theorem f82_e_mem (k : Nat) (c92 : PV → (List PV) → ((List PV) → R) → R) (retF : Int × PV × (List PV) → R) (s1 : List Int) (p2 : PV) (l3 : List PV) : exec (f82_E k c92) f82_code (endK (f82_E k c92) Try.f82 [2000000, 2000001] f82_un retF) ⟨[.ptr 2000000 [], .str s1, .undef, .undef, .undef, .undef, .undef, .undef, .undef, .undef, .undef, .undef, .undef, .undef, .undef, .undef, .undef, .undef, .undef], [(2000000, .box 76 (.agg 76 [.val 74 p2, .own 43 2000001])), (2000001, .row 5 l3)]⟩ = f82_e c92 (fun y0 y1 y2 => retF (y0, y1, y2)) s1 p2 l3 := by kernel_rfl

noncomputable def f82_N (k : Nat) (c92 : PV → (List PV) → ((List PV) → R) → R) (ret0 : Int → PV → (List PV) → R) (s1 : List Int) (p2 : PV) (l3 : List PV) : R :=
  f82_e c92 ret0 s1 p2 l3
theorem f82_eq (k : Nat) (c92 : PV → (List PV) → ((List PV) → R) → R) (retF : Int × PV × (List PV) → R) (s1 : List Int) (p2 : PV) (l3 : List PV) : exec (f82_E k c92) f82_code (endK (f82_E k c92) Try.f82 [2000000, 2000001] f82_un retF) ⟨[.ptr 2000000 [], .str s1, .undef, .undef, .undef, .undef, .undef, .undef, .undef, .undef, .undef, .undef, .undef, .undef, .undef, .undef, .undef, .undef, .undef], [(2000000, .box 76 (.agg 76 [.val 74 p2, .own 43 2000001])), (2000001, .row 5 l3)]⟩ = f82_N k c92 (fun y0 y1 y2 => retF (y0, y1, y2)) s1 p2 l3 :=
  (f82_e_mem k c92 retF s1 p2 l3)

noncomputable def G82 : Nat → (List Int) → PV → (List PV) → (Int → PV → (List PV) → R) → R
  | 0, _, _, _, _ => none
  | k + 1, s1, p2, l3, ret0 => f82_N k (G92 k) ret0 s1 p2 l3
theorem S82 : ∀ k, Snd Try.prog 82 f82_I f82_O (fun x ret => G82 k x.1 x.2.1 x.2.2 (fun y0 y1 y2 => ret (y0, y1, y2)))
  | 0 => snd_none
  | k + 1 => snd_step (E := f82_E k (G92 k)) rfl laidOut noNums (orc_ok (S92 k).o f92_D_ok orc0_ok) (f := 82) (fn := Try.f82) (code := f82_code) Try.func82 (by kernel_rfl) (drawsOk_of laidOut (orc_ok (S92 k).o f92_D_ok orc0_ok) mixed (by kernel_rfl)) f82_un f82_un_ok [2000000, 2000001] (fun _ => rfl)
      (fun x ret => f82_eq k (G92 k) ret x.1 x.2.1 x.2.2)

/- catchpole/value.Kids -/
noncomputable def f59_I : PV → List SV × Obs := fun x => ([.val 30 x], [])
noncomputable def f59_D : List SV → Obs → Option (PV)
  | [.val 30 p1], [] => some p1
  | _, _ => none
theorem f59_D_ok (args : List SV) (B : Obs) (x : PV) (h : f59_D args B = some x) : f59_I x = (args, B) := by
  unfold f59_D at h
  split at h
  · injection h with h; subst h; rfl
  · cases h
noncomputable def f59_O : PV → Out := (fun y => ([.val 28 y], []))
noncomputable def f59_un : Out → Option (PV)
  | ([.val 28 y0], []) => some y0
  | _ => none
theorem f59_un_ok (o : Out) (y : PV) (h : f59_un o = some y) : o = f59_O y := by
  unfold f59_un at h
  split at h
  · injection h with h; subst h; rfl
  · cases h
noncomputable def f59_msk : Nat → Option (List Nat) := fun key =>  none
noncomputable def f59_C : Oracle := orc0
noncomputable def f59_E (k : Nat) : Env := { P := Try.prog, nilOwn := fun d => false, fldOwn := fun d i => false, ownPar := ownPars, ownRet := false, mask := f59_msk, fuel := k, C := f59_C }
noncomputable def f59_code : Code := Try.f59.body.getD .skip
noncomputable def f59_e (ret0 : PV → R) (p1 : PV) : R :=
  bif (decide ((PV.num (PV.fld p1 0)) = (3 : Int))) then
    let n2 : Int := (if (List.length (PV.els (PV.fld p1 2)) : Int) < (2 : Int) then (List.length (PV.els (PV.fld p1 2)) : Int) else 2)
    bif (decide ((0 : Int) ≤ (0 : Int)) && decide ((0 : Int) ≤ n2) && decide (n2 ≤ (List.length (PV.els (PV.fld p1 2)) : Int))) then
      ret0 (PV.list (List.drop ((0 : Int)).toNat (List.take (n2).toNat (PV.els (PV.fld p1 2)))))
    else none
  else bif (decide ((PV.num (PV.fld p1 0)) = (4 : Int))) then
    let n3 : Int := (if (List.length (PV.els (PV.fld p1 2)) : Int) < (1 : Int) then (List.length (PV.els (PV.fld p1 2)) : Int) else 1)
    bif (decide ((0 : Int) ≤ (0 : Int)) && decide ((0 : Int) ≤ n3) && decide (n3 ≤ (List.length (PV.els (PV.fld p1 2)) : Int))) then
      ret0 (PV.list (List.drop ((0 : Int)).toNat (List.take (n3).toNat (PV.els (PV.fld p1 2)))))
    else none
  else bif (decide ((PV.num (PV.fld p1 0)) = (5 : Int))) then
    let n4 : Int := (if (List.length (PV.els (PV.fld p1 2)) : Int) < (1 : Int) then (List.length (PV.els (PV.fld p1 2)) : Int) else 1)
    bif (decide ((0 : Int) ≤ (0 : Int)) && decide ((0 : Int) ≤ n4) && decide (n4 ≤ (List.length (PV.els (PV.fld p1 2)) : Int))) then
      ret0 (PV.list (List.drop ((0 : Int)).toNat (List.take (n4).toNat (PV.els (PV.fld p1 2)))))
    else none
  else bif (decide ((PV.num (PV.fld p1 0)) = (7 : Int))) then
    let n5 : Int := (if (List.length (PV.els (PV.fld p1 2)) : Int) < (1 : Int) then (List.length (PV.els (PV.fld p1 2)) : Int) else 1)
    bif (decide ((0 : Int) ≤ (0 : Int)) && decide ((0 : Int) ≤ n5) && decide (n5 ≤ (List.length (PV.els (PV.fld p1 2)) : Int))) then
      ret0 (PV.list (List.drop ((0 : Int)).toNat (List.take (n5).toNat (PV.els (PV.fld p1 2)))))
    else none
  else bif (decide ((PV.num (PV.fld p1 0)) = (6 : Int))) then
    let n6 : Int := (if (List.length (PV.els (PV.fld p1 2)) : Int) < (List.length (PV.els (PV.fld p1 2)) : Int) then (List.length (PV.els (PV.fld p1 2)) : Int) else (List.length (PV.els (PV.fld p1 2)) : Int))
    bif (decide ((0 : Int) ≤ (0 : Int)) && decide ((0 : Int) ≤ n6) && decide (n6 ≤ (List.length (PV.els (PV.fld p1 2)) : Int))) then
      ret0 (PV.list (List.drop ((0 : Int)).toNat (List.take (n6).toNat (PV.els (PV.fld p1 2)))))
    else none
  else let n7 : Int := (if (List.length (PV.els (PV.fld p1 2)) : Int) < (0 : Int) then (List.length (PV.els (PV.fld p1 2)) : Int) else 0)
  bif (decide ((0 : Int) ≤ (0 : Int)) && decide ((0 : Int) ≤ n7) && decide (n7 ≤ (List.length (PV.els (PV.fld p1 2)) : Int))) then
    ret0 (PV.list (List.drop ((0 : Int)).toNat (List.take (n7).toNat (PV.els (PV.fld p1 2)))))
  else none

theorem f59_e_mem (k : Nat) (retF : PV → R) (p1 : PV) : exec (f59_E k) f59_code (endK (f59_E k) Try.f59 [] f59_un retF) ⟨[.val 30 p1, .undef, .undef, .undef, .undef, .undef, .undef, .undef, .undef, .undef, .undef, .undef, .undef, .undef, .undef, .undef, .undef, .undef, .undef, .undef, .undef, .undef, .undef, .undef, .undef], []⟩ = f59_e (fun y0 => retF y0) p1 := by kernel_rfl

noncomputable def f59_N (k : Nat) (ret0 : PV → R) (p1 : PV) : R :=
  f59_e ret0 p1
theorem f59_eq (k : Nat) (retF : PV → R) (p1 : PV) : exec (f59_E k) f59_code (endK (f59_E k) Try.f59 [] f59_un retF) ⟨[.val 30 p1, .undef, .undef, .undef, .undef, .undef, .undef, .undef, .undef, .undef, .undef, .undef, .undef, .undef, .undef, .undef, .undef, .undef, .undef, .undef, .undef, .undef, .undef, .undef, .undef], []⟩ = f59_N k (fun y0 => retF y0) p1 :=
  (f59_e_mem k retF p1)

noncomputable def G59 : Nat → PV → (PV → R) → R
  | 0, _, _ => none
  | k + 1, p1, ret0 => f59_N k  ret0 p1
theorem S59 : ∀ k, Snd Try.prog 59 f59_I f59_O (fun x ret => G59 k x (fun y0 => ret y0))
  | 0 => snd_none
  | k + 1 => snd_step (E := f59_E k ) rfl laidOut noNums orc0_ok (f := 59) (fn := Try.f59) (code := f59_code) Try.func59 (by kernel_rfl) (drawsOk_of laidOut orc0_ok mixed (by kernel_rfl)) f59_un f59_un_ok [] (fun _ => rfl)
      (fun x ret => f59_eq k  ret x)

/- (*strings.Builder).copyCheck -/
noncomputable def f92v1_I : (List PV) → List SV × Obs := fun x => ([.ptr 2000000 []], [(2000000, .box 76 (.agg 76 [.ptr 2000000 [], .own 43 2000001])), (2000001, .row 5 x)])
noncomputable def f92v1_D : List SV → Obs → Option ((List PV))
  | [.ptr 2000000 []], [(2000000, .box 76 (.agg 76 [.ptr 2000000 [], .own 43 2000001])), (2000001, .row 5 l1)] => some l1
  | _, _ => none
theorem f92v1_D_ok (args : List SV) (B : Obs) (x : (List PV)) (h : f92v1_D args B = some x) : f92v1_I x = (args, B) := by
  unfold f92v1_D at h
  split at h
  · injection h with h; subst h; rfl
  · cases h
noncomputable def f92v1_O : (List PV) → Out := (fun y => ([], [(2000000, .box 76 (.agg 76 [.ptr 2000000 [], .own 43 2000001])), (2000001, .row 5 y)]))
noncomputable def f92v1_un : Out → Option ((List PV))
  | ([], [(2000000, .box 76 (.agg 76 [.ptr 2000000 [], .own 43 2000001])), (2000001, .row 5 y0)]) => some y0
  | _ => none
theorem f92v1_un_ok (o : Out) (y : (List PV)) (h : f92v1_un o = some y) : o = f92v1_O y := by
  unfold f92v1_un at h
  split at h
  · injection h with h; subst h; rfl
  · cases h

noncomputable def G92v1 : Nat → (List PV) → ((List PV) → R) → R
  | _, l, ret0 => ret0 l
theorem S92v1 : ∀ k, SndO Try.prog 92 f92v1_I f92v1_O (fun x ret => G92v1 k x (fun y0 => ret y0)) := fun k => Bld.used

/- (*strings.Builder).WriteString -/
noncomputable def f82v1_I : (List Int) × (List PV) → List SV × Obs := fun x => ([.ptr 2000000 [], .str x.1], [(2000000, .box 76 (.agg 76 [.ptr 2000000 [], .own 43 2000001])), (2000001, .row 5 x.2)])
noncomputable def f82v1_D : List SV → Obs → Option ((List Int) × (List PV))
  | [.ptr 2000000 [], .str s1], [(2000000, .box 76 (.agg 76 [.ptr 2000000 [], .own 43 2000001])), (2000001, .row 5 l2)] => some (s1, l2)
  | _, _ => none
theorem f82v1_D_ok (args : List SV) (B : Obs) (x : (List Int) × (List PV)) (h : f82v1_D args B = some x) : f82v1_I x = (args, B) := by
  unfold f82v1_D at h
  split at h
  · injection h with h; subst h; rfl
  · cases h
noncomputable def f82v1_O : Int × PV × (List PV) → Out := (fun y => ([.int .i64 y.1, .val 103 y.2.1], [(2000000, .box 76 (.agg 76 [.ptr 2000000 [], .own 43 2000001])), (2000001, .row 5 y.2.2)]))
noncomputable def f82v1_un : Out → Option (Int × PV × (List PV))
  | ([.int .i64 y0, .val 103 y1], [(2000000, .box 76 (.agg 76 [.ptr 2000000 [], .own 43 2000001])), (2000001, .row 5 y2)]) => some (y0, y1, y2)
  | _ => none
theorem f82v1_un_ok (o : Out) (y : Int × PV × (List PV)) (h : f82v1_un o = some y) : o = f82v1_O y := by
  unfold f82v1_un at h
  split at h
  · injection h with h; subst h; rfl
  · cases h
noncomputable def f82v1_msk : Nat → Option (List Nat) := fun key =>  none
noncomputable def f82v1_C (c92v1 : (List PV) → ((List PV) → R) → R) : Oracle := orc 92 f92v1_D f92v1_O (fun x ret => c92v1 x (fun y0 => ret y0)) <| orc0
noncomputable def f82v1_E (k : Nat) (c92v1 : (List PV) → ((List PV) → R) → R) : Env := { P := Try.prog, nilOwn := fun d => false, fldOwn := fun d i => false, ownPar := ownPars, ownRet := false, mask := f82v1_msk, fuel := k, C := f82v1_C c92v1 }
noncomputable def f82v1_code : Code := Try.f82.body.getD .skip
noncomputable def f82v1_e (c92v1 : (List PV) → ((List PV) → R) → R) (ret0 : Int → PV → (List PV) → R) (s1 : List Int) (l2 : List PV) : R :=
  c92v1 l2 fun l3 =>
  bif (true && roomy (List.length l3 + List.length (List.map PV.int s1)) 1) then
    ret0 (List.length s1 : Int) PV.nil (l3 ++ (List.map PV.int s1))
  else none

theorem f82v1_e_mem (k : Nat) (c92v1 : (List PV) → ((List PV) → R) → R) (retF : Int × PV × (List PV) → R) (s1 : List Int) (l2 : List PV) : exec (f82v1_E k c92v1) f82v1_code (endK (f82v1_E k c92v1) Try.f82 [2000000, 2000001] f82v1_un retF) ⟨[.ptr 2000000 [], .str s1, .undef, .undef, .undef, .undef, .undef, .undef, .undef, .undef, .undef, .undef, .undef, .undef, .undef, .undef, .undef, .undef, .undef], [(2000000, .box 76 (.agg 76 [.ptr 2000000 [], .own 43 2000001])), (2000001, .row 5 l2)]⟩ = f82v1_e c92v1 (fun y0 y1 y2 => retF (y0, y1, y2)) s1 l2 := by kernel_rfl

noncomputable def f82v1_N (k : Nat) (c92v1 : (List PV) → ((List PV) → R) → R) (ret0 : Int → PV → (List PV) → R) (s1 : List Int) (l2 : List PV) : R :=
  f82v1_e c92v1 ret0 s1 l2
theorem f82v1_eq (k : Nat) (c92v1 : (List PV) → ((List PV) → R) → R) (retF : Int × PV × (List PV) → R) (s1 : List Int) (l2 : List PV) : exec (f82v1_E k c92v1) f82v1_code (endK (f82v1_E k c92v1) Try.f82 [2000000, 2000001] f82v1_un retF) ⟨[.ptr 2000000 [], .str s1, .undef, .undef, .undef, .undef, .undef, .undef, .undef, .undef, .undef, .undef, .undef, .undef, .undef, .undef, .undef, .undef, .undef], [(2000000, .box 76 (.agg 76 [.ptr 2000000 [], .own 43 2000001])), (2000001, .row 5 l2)]⟩ = f82v1_N k c92v1 (fun y0 y1 y2 => retF (y0, y1, y2)) s1 l2 :=
  (f82v1_e_mem k c92v1 retF s1 l2)

noncomputable def G82v1 : Nat → (List Int) → (List PV) → (Int → PV → (List PV) → R) → R
  | 0, _, _, _ => none
  | k + 1, s1, l2, ret0 => f82v1_N k (G92v1 k) ret0 s1 l2
theorem S82v1 : ∀ k, Snd Try.prog 82 f82v1_I f82v1_O (fun x ret => G82v1 k x.1 x.2 (fun y0 y1 y2 => ret (y0, y1, y2)))
  | 0 => snd_none
  | k + 1 => snd_step (E := f82v1_E k (G92v1 k)) rfl laidOut noNums (orc_ok (S92v1 k).o f92v1_D_ok orc0_ok) (f := 82) (fn := Try.f82) (code := f82v1_code) Try.func82 (by kernel_rfl) (drawsOk_of laidOut (orc_ok (S92v1 k).o f92v1_D_ok orc0_ok) mixed (by kernel_rfl)) f82v1_un f82v1_un_ok [2000000, 2000001] (fun _ => rfl)
      (fun x ret => f82v1_eq k (G92v1 k) ret x.1 x.2)

/- catchpole/bits.put -/
noncomputable def f74v1_I : PV × (List PV) → List SV × Obs := fun x => ([.ptr 2000000 [], .val 30 x.1], [(2000000, .box 76 (.agg 76 [.ptr 2000000 [], .own 43 2000001])), (2000001, .row 5 x.2)])
noncomputable def f74v1_D : List SV → Obs → Option (PV × (List PV))
  | [.ptr 2000000 [], .val 30 p1], [(2000000, .box 76 (.agg 76 [.ptr 2000000 [], .own 43 2000001])), (2000001, .row 5 l2)] => some (p1, l2)
  | _, _ => none
theorem f74v1_D_ok (args : List SV) (B : Obs) (x : PV × (List PV)) (h : f74v1_D args B = some x) : f74v1_I x = (args, B) := by
  unfold f74v1_D at h
  split at h
  · injection h with h; subst h; rfl
  · cases h
noncomputable def f74v1_O : (List PV) → Out := (fun y => ([], [(2000000, .box 76 (.agg 76 [.ptr 2000000 [], .own 43 2000001])), (2000001, .row 5 y)]))
noncomputable def f74v1_un : Out → Option ((List PV))
  | ([], [(2000000, .box 76 (.agg 76 [.ptr 2000000 [], .own 43 2000001])), (2000001, .row 5 y0)]) => some y0
  | _ => none
theorem f74v1_un_ok (o : Out) (y : (List PV)) (h : f74v1_un o = some y) : o = f74v1_O y := by
  unfold f74v1_un at h
  split at h
  · injection h with h; subst h; rfl
  · cases h
noncomputable def f74v1_msk : Nat → Option (List Nat) := fun key => bif key == 21 then some [0, 3, 17, 18, 19] else none
noncomputable def f74v1_C (c59 : PV → (PV → R) → R) (c74v1 : PV → (List PV) → ((List PV) → R) → R) (c82v1 : (List Int) → (List PV) → (Int → PV → (List PV) → R) → R) : Oracle := orc 59 f59_D f59_O (fun x ret => c59 x (fun y0 => ret y0)) <| orc 74 f74v1_D f74v1_O (fun x ret => c74v1 x.1 x.2 (fun y0 => ret y0)) <| orc 82 f82v1_D f82v1_O (fun x ret => c82v1 x.1 x.2 (fun y0 y1 y2 => ret (y0, y1, y2))) <| orc0
noncomputable def f74v1_E (k : Nat) (c59 : PV → (PV → R) → R) (c74v1 : PV → (List PV) → ((List PV) → R) → R) (c82v1 : (List Int) → (List PV) → (Int → PV → (List PV) → R) → R) : Env := { P := Try.prog, nilOwn := fun d => false, fldOwn := fun d i => false, ownPar := ownPars, ownRet := false, mask := f74v1_msk, fuel := k, C := f74v1_C c59 c74v1 c82v1 }
noncomputable def f74v1_code : Code := Try.f74.body.getD .skip
noncomputable def f74v1_cw1 : Code := subC f74v1_code [1, 1, 0, 1, 0, 0]
noncomputable def f74v1_hw1_0 (p1 : PV) (p6 : PV) (n15 : Int) (l16 : List PV) : St := ⟨[.ptr 2000000 [], .dead, .dead, .ptr 3 [], .dead, .dead, .dead, .dead, .dead, .dead, .dead, .dead, .dead, .dead, .dead, .dead, .dead, .val 28 p6, .int .i64 (List.length (PV.els p6) : Int), .int .i64 n15, .dead, .dead, .dead, .dead, .dead, .dead, .dead, .dead, .dead, .dead, .dead, .dead, .dead, .dead, .dead, .dead, .dead], [(3, .box 30 (.val 30 p1)), (2000000, .box 76 (.agg 76 [.ptr 2000000 [], .own 43 2000001])), (2000001, .row 5 l16)]⟩
noncomputable def f74v1_w1A (k : Nat) (c59 : PV → (PV → R) → R) (c74v1 : PV → (List PV) → ((List PV) → R) → R) (c82v1 : (List Int) → (List PV) → (Int → PV → (List PV) → R) → R) (retF : (List PV) → R) (p1 : PV) (p6 : PV) (n15 : Int) (l16 : List PV) : R := loopM (f74v1_E k c59 c74v1 c82v1) f74v1_cw1 (kont (f74v1_E k c59 c74v1 c82v1) f74v1_code [1, 1, 0, 1, 0] (endK (f74v1_E k c59 c74v1 c82v1) Try.f74 [2000000, 2000001] f74v1_un retF)) k (f74v1_hw1_0 p1 p6 n15 l16)
noncomputable def f74v1_w1b0 (c59 : PV → (PV → R) → R) (c74v1 : PV → (List PV) → ((List PV) → R) → R) (c82v1 : (List Int) → (List PV) → (Int → PV → (List PV) → R) → R) (ret0 : (List PV) → R) (next_w1_0 : Int → (List PV) → R) (p1 : PV) (p6 : PV) (n15 : Int) (l16 : List PV) : R :=
  bif (decide (n15 < (List.length (PV.els p6) : Int))) then
    bif (true && decide ((0 : Int) ≤ n15) && decide (n15 < (List.length (PV.els p6) : Int))) then
      bif (decide ((PV.num (PV.fld p1 0)) = (6 : Int))) then
        c82v1 [48] l16 fun n17 p18 l19 =>
        c74v1 (List.getD (PV.els p6) (n15).toNat PV.nil) l19 fun l20 =>
        next_w1_0 (IntKind.wrap .i64 (n15 + (1 : Int))) l20
      else c74v1 (List.getD (PV.els p6) (n15).toNat PV.nil) l16 fun l21 =>
      next_w1_0 (IntKind.wrap .i64 (n15 + (1 : Int))) l21
    else none
  else bif (decide ((PV.num (PV.fld p1 0)) = (6 : Int))) then
    c82v1 [49] l16 fun n22 p23 l24 =>
    ret0 l24
  else ret0 l16

theorem f74v1_w1b0_mem (k : Nat) (c59 : PV → (PV → R) → R) (c74v1 : PV → (List PV) → ((List PV) → R) → R) (c82v1 : (List Int) → (List PV) → (Int → PV → (List PV) → R) → R) (retF : (List PV) → R) (NX_w1 : St → R) (p1 : PV) (p6 : PV) (n15 : Int) (l16 : List PV) : exec (f74v1_E k c59 c74v1 c82v1) f74v1_cw1 (purgeK (f74v1_E k c59 c74v1 c82v1) f74v1_cw1 (loopK NX_w1 (kont (f74v1_E k c59 c74v1 c82v1) f74v1_code [1, 1, 0, 1, 0] (endK (f74v1_E k c59 c74v1 c82v1) Try.f74 [2000000, 2000001] f74v1_un retF)))) (f74v1_hw1_0 p1 p6 n15 l16) = f74v1_w1b0 c59 c74v1 c82v1 (fun y0 => retF y0) (fun n15 l16 => NX_w1 (f74v1_hw1_0 p1 p6 n15 l16)) p1 p6 n15 l16 := by kernel_rfl

noncomputable def f74v1_w1b0N (k : Nat) (c59 : PV → (PV → R) → R) (c74v1 : PV → (List PV) → ((List PV) → R) → R) (c82v1 : (List Int) → (List PV) → (Int → PV → (List PV) → R) → R) (ret0 : (List PV) → R) (next_w1_0 : Int → (List PV) → R) (p1 : PV) (p6 : PV) (n15 : Int) (l16 : List PV) : R :=
  f74v1_w1b0 c59 c74v1 c82v1 ret0 next_w1_0 p1 p6 n15 l16
theorem f74v1_w1b0_eq (k : Nat) (c59 : PV → (PV → R) → R) (c74v1 : PV → (List PV) → ((List PV) → R) → R) (c82v1 : (List Int) → (List PV) → (Int → PV → (List PV) → R) → R) (retF : (List PV) → R) (NX_w1 : St → R) (p1 : PV) (p6 : PV) (n15 : Int) (l16 : List PV) : exec (f74v1_E k c59 c74v1 c82v1) f74v1_cw1 (purgeK (f74v1_E k c59 c74v1 c82v1) f74v1_cw1 (loopK NX_w1 (kont (f74v1_E k c59 c74v1 c82v1) f74v1_code [1, 1, 0, 1, 0] (endK (f74v1_E k c59 c74v1 c82v1) Try.f74 [2000000, 2000001] f74v1_un retF)))) (f74v1_hw1_0 p1 p6 n15 l16) = f74v1_w1b0N k c59 c74v1 c82v1 (fun y0 => retF y0) (fun n15 l16 => NX_w1 (f74v1_hw1_0 p1 p6 n15 l16)) p1 p6 n15 l16 :=
  (f74v1_w1b0_mem k c59 c74v1 c82v1 retF NX_w1 p1 p6 n15 l16)

noncomputable def f74v1_w1B (k : Nat) (c59 : PV → (PV → R) → R) (c74v1 : PV → (List PV) → ((List PV) → R) → R) (c82v1 : (List Int) → (List PV) → (Int → PV → (List PV) → R) → R) (ret0 : (List PV) → R) (p1 : PV) (p6 : PV) (nx : Int × (List PV) → R) : Int × (List PV) → R := (fun s => f74v1_w1b0N k c59 c74v1 c82v1 ret0 (fun n15 l16 => nx (n15, l16)) p1 p6 s.1 s.2)
noncomputable def f74v1_w1N (k : Nat) (c59 : PV → (PV → R) → R) (c74v1 : PV → (List PV) → ((List PV) → R) → R) (c82v1 : (List Int) → (List PV) → (Int → PV → (List PV) → R) → R) (ret0 : (List PV) → R) (p1 : PV) (p6 : PV) (n15 : Int) (l16 : List PV) : R := loopR (f74v1_w1B k c59 c74v1 c82v1 ret0 p1 p6) k (n15, l16)
theorem f74v1_w1_eq (k : Nat) (c59 : PV → (PV → R) → R) (c74v1 : PV → (List PV) → ((List PV) → R) → R) (c82v1 : (List Int) → (List PV) → (Int → PV → (List PV) → R) → R) (retF : (List PV) → R) (p1 : PV) (p6 : PV) (n15 : Int) (l16 : List PV) : f74v1_w1A k c59 c74v1 c82v1 retF p1 p6 n15 l16 = f74v1_w1N k c59 c74v1 c82v1 (fun y0 => retF y0) p1 p6 n15 l16 :=
  Eq.mp (by kernel_rfl) (loop_sim (E := (f74v1_E k c59 c74v1 c82v1)) (c := f74v1_cw1) (K := (kont (f74v1_E k c59 c74v1 c82v1) f74v1_code [1, 1, 0, 1, 0] (endK (f74v1_E k c59 c74v1 c82v1) Try.f74 [2000000, 2000001] f74v1_un retF))) (S := Int × (List PV)) (fun s => f74v1_hw1_0 p1 p6 s.1 s.2) (f74v1_w1B k c59 c74v1 c82v1 (fun y0 => retF y0) p1 p6) (fun NX s => by
    exact Eq.mp (by kernel_rfl) (f74v1_w1b0_eq k c59 c74v1 c82v1 retF NX p1 p6 s.1 s.2)) k (n15, l16))

noncomputable def f74v1_cw2 : Code := subC f74v1_code [1, 1, 0, 1, 0, 0]
noncomputable def f74v1_hw2_0 (p1 : PV) (p28 : PV) (n37 : Int) (l38 : List PV) : St := ⟨[.ptr 2000000 [], .dead, .dead, .ptr 3 [], .dead, .dead, .dead, .dead, .dead, .dead, .dead, .dead, .dead, .dead, .dead, .dead, .dead, .val 28 p28, .int .i64 (List.length (PV.els p28) : Int), .int .i64 n37, .dead, .dead, .dead, .dead, .dead, .dead, .dead, .dead, .dead, .dead, .dead, .dead, .dead, .dead, .dead, .dead, .dead], [(3, .box 30 (.val 30 p1)), (2000000, .box 76 (.agg 76 [.ptr 2000000 [], .own 43 2000001])), (2000001, .row 5 l38)]⟩
noncomputable def f74v1_w2A (k : Nat) (c59 : PV → (PV → R) → R) (c74v1 : PV → (List PV) → ((List PV) → R) → R) (c82v1 : (List Int) → (List PV) → (Int → PV → (List PV) → R) → R) (retF : (List PV) → R) (p1 : PV) (p28 : PV) (n37 : Int) (l38 : List PV) : R := loopM (f74v1_E k c59 c74v1 c82v1) f74v1_cw2 (kont (f74v1_E k c59 c74v1 c82v1) f74v1_code [1, 1, 0, 1, 0] (endK (f74v1_E k c59 c74v1 c82v1) Try.f74 [2000000, 2000001] f74v1_un retF)) k (f74v1_hw2_0 p1 p28 n37 l38)
noncomputable def f74v1_w2b0 (c59 : PV → (PV → R) → R) (c74v1 : PV → (List PV) → ((List PV) → R) → R) (c82v1 : (List Int) → (List PV) → (Int → PV → (List PV) → R) → R) (ret0 : (List PV) → R) (next_w2_0 : Int → (List PV) → R) (p1 : PV) (p28 : PV) (n37 : Int) (l38 : List PV) : R :=
  bif (decide (n37 < (List.length (PV.els p28) : Int))) then
    bif (true && decide ((0 : Int) ≤ n37) && decide (n37 < (List.length (PV.els p28) : Int))) then
      bif (decide ((PV.num (PV.fld p1 0)) = (6 : Int))) then
        c82v1 [48] l38 fun n39 p40 l41 =>
        c74v1 (List.getD (PV.els p28) (n37).toNat PV.nil) l41 fun l42 =>
        next_w2_0 (IntKind.wrap .i64 (n37 + (1 : Int))) l42
      else c74v1 (List.getD (PV.els p28) (n37).toNat PV.nil) l38 fun l43 =>
      next_w2_0 (IntKind.wrap .i64 (n37 + (1 : Int))) l43
    else none
  else bif (decide ((PV.num (PV.fld p1 0)) = (6 : Int))) then
    c82v1 [49] l38 fun n44 p45 l46 =>
    ret0 l46
  else ret0 l38

theorem f74v1_w2b0_mem (k : Nat) (c59 : PV → (PV → R) → R) (c74v1 : PV → (List PV) → ((List PV) → R) → R) (c82v1 : (List Int) → (List PV) → (Int → PV → (List PV) → R) → R) (retF : (List PV) → R) (NX_w2 : St → R) (p1 : PV) (p28 : PV) (n37 : Int) (l38 : List PV) : exec (f74v1_E k c59 c74v1 c82v1) f74v1_cw2 (purgeK (f74v1_E k c59 c74v1 c82v1) f74v1_cw2 (loopK NX_w2 (kont (f74v1_E k c59 c74v1 c82v1) f74v1_code [1, 1, 0, 1, 0] (endK (f74v1_E k c59 c74v1 c82v1) Try.f74 [2000000, 2000001] f74v1_un retF)))) (f74v1_hw2_0 p1 p28 n37 l38) = f74v1_w2b0 c59 c74v1 c82v1 (fun y0 => retF y0) (fun n37 l38 => NX_w2 (f74v1_hw2_0 p1 p28 n37 l38)) p1 p28 n37 l38 := by kernel_rfl

noncomputable def f74v1_w2b0N (k : Nat) (c59 : PV → (PV → R) → R) (c74v1 : PV → (List PV) → ((List PV) → R) → R) (c82v1 : (List Int) → (List PV) → (Int → PV → (List PV) → R) → R) (ret0 : (List PV) → R) (next_w2_0 : Int → (List PV) → R) (p1 : PV) (p28 : PV) (n37 : Int) (l38 : List PV) : R :=
  f74v1_w2b0 c59 c74v1 c82v1 ret0 next_w2_0 p1 p28 n37 l38
theorem f74v1_w2b0_eq (k : Nat) (c59 : PV → (PV → R) → R) (c74v1 : PV → (List PV) → ((List PV) → R) → R) (c82v1 : (List Int) → (List PV) → (Int → PV → (List PV) → R) → R) (retF : (List PV) → R) (NX_w2 : St → R) (p1 : PV) (p28 : PV) (n37 : Int) (l38 : List PV) : exec (f74v1_E k c59 c74v1 c82v1) f74v1_cw2 (purgeK (f74v1_E k c59 c74v1 c82v1) f74v1_cw2 (loopK NX_w2 (kont (f74v1_E k c59 c74v1 c82v1) f74v1_code [1, 1, 0, 1, 0] (endK (f74v1_E k c59 c74v1 c82v1) Try.f74 [2000000, 2000001] f74v1_un retF)))) (f74v1_hw2_0 p1 p28 n37 l38) = f74v1_w2b0N k c59 c74v1 c82v1 (fun y0 => retF y0) (fun n37 l38 => NX_w2 (f74v1_hw2_0 p1 p28 n37 l38)) p1 p28 n37 l38 :=
  (f74v1_w2b0_mem k c59 c74v1 c82v1 retF NX_w2 p1 p28 n37 l38)

noncomputable def f74v1_w2B (k : Nat) (c59 : PV → (PV → R) → R) (c74v1 : PV → (List PV) → ((List PV) → R) → R) (c82v1 : (List Int) → (List PV) → (Int → PV → (List PV) → R) → R) (ret0 : (List PV) → R) (p1 : PV) (p28 : PV) (nx : Int × (List PV) → R) : Int × (List PV) → R := (fun s => f74v1_w2b0N k c59 c74v1 c82v1 ret0 (fun n37 l38 => nx (n37, l38)) p1 p28 s.1 s.2)
noncomputable def f74v1_w2N (k : Nat) (c59 : PV → (PV → R) → R) (c74v1 : PV → (List PV) → ((List PV) → R) → R) (c82v1 : (List Int) → (List PV) → (Int → PV → (List PV) → R) → R) (ret0 : (List PV) → R) (p1 : PV) (p28 : PV) (n37 : Int) (l38 : List PV) : R := loopR (f74v1_w2B k c59 c74v1 c82v1 ret0 p1 p28) k (n37, l38)
theorem f74v1_w2_eq (k : Nat) (c59 : PV → (PV → R) → R) (c74v1 : PV → (List PV) → ((List PV) → R) → R) (c82v1 : (List Int) → (List PV) → (Int → PV → (List PV) → R) → R) (retF : (List PV) → R) (p1 : PV) (p28 : PV) (n37 : Int) (l38 : List PV) : f74v1_w2A k c59 c74v1 c82v1 retF p1 p28 n37 l38 = f74v1_w2N k c59 c74v1 c82v1 (fun y0 => retF y0) p1 p28 n37 l38 :=
  Eq.mp (by kernel_rfl) (loop_sim (E := (f74v1_E k c59 c74v1 c82v1)) (c := f74v1_cw2) (K := (kont (f74v1_E k c59 c74v1 c82v1) f74v1_code [1, 1, 0, 1, 0] (endK (f74v1_E k c59 c74v1 c82v1) Try.f74 [2000000, 2000001] f74v1_un retF))) (S := Int × (List PV)) (fun s => f74v1_hw2_0 p1 p28 s.1 s.2) (f74v1_w2B k c59 c74v1 c82v1 (fun y0 => retF y0) p1 p28) (fun NX s => by
    exact Eq.mp (by kernel_rfl) (f74v1_w2b0_eq k c59 c74v1 c82v1 retF NX p1 p28 s.1 s.2)) k (n37, l38))

noncomputable def f74v1_cw3 : Code := subC f74v1_code [1, 1, 0, 1, 0, 0]
noncomputable def f74v1_hw3_0 (p1 : PV) (p47 : PV) (n56 : Int) (l57 : List PV) : St := ⟨[.ptr 2000000 [], .dead, .dead, .ptr 3 [], .dead, .dead, .dead, .dead, .dead, .dead, .dead, .dead, .dead, .dead, .dead, .dead, .dead, .val 28 p47, .int .i64 (List.length (PV.els p47) : Int), .int .i64 n56, .dead, .dead, .dead, .dead, .dead, .dead, .dead, .dead, .dead, .dead, .dead, .dead, .dead, .dead, .dead, .dead, .dead], [(3, .box 30 (.val 30 p1)), (2000000, .box 76 (.agg 76 [.ptr 2000000 [], .own 43 2000001])), (2000001, .row 5 l57)]⟩
noncomputable def f74v1_w3A (k : Nat) (c59 : PV → (PV → R) → R) (c74v1 : PV → (List PV) → ((List PV) → R) → R) (c82v1 : (List Int) → (List PV) → (Int → PV → (List PV) → R) → R) (retF : (List PV) → R) (p1 : PV) (p47 : PV) (n56 : Int) (l57 : List PV) : R := loopM (f74v1_E k c59 c74v1 c82v1) f74v1_cw3 (kont (f74v1_E k c59 c74v1 c82v1) f74v1_code [1, 1, 0, 1, 0] (endK (f74v1_E k c59 c74v1 c82v1) Try.f74 [2000000, 2000001] f74v1_un retF)) k (f74v1_hw3_0 p1 p47 n56 l57)
noncomputable def f74v1_w3b0 (c59 : PV → (PV → R) → R) (c74v1 : PV → (List PV) → ((List PV) → R) → R) (c82v1 : (List Int) → (List PV) → (Int → PV → (List PV) → R) → R) (ret0 : (List PV) → R) (next_w3_0 : Int → (List PV) → R) (p1 : PV) (p47 : PV) (n56 : Int) (l57 : List PV) : R :=
  bif (decide (n56 < (List.length (PV.els p47) : Int))) then
    bif (true && decide ((0 : Int) ≤ n56) && decide (n56 < (List.length (PV.els p47) : Int))) then
      bif (decide ((PV.num (PV.fld p1 0)) = (6 : Int))) then
        c82v1 [48] l57 fun n58 p59 l60 =>
        c74v1 (List.getD (PV.els p47) (n56).toNat PV.nil) l60 fun l61 =>
        next_w3_0 (IntKind.wrap .i64 (n56 + (1 : Int))) l61
      else c74v1 (List.getD (PV.els p47) (n56).toNat PV.nil) l57 fun l62 =>
      next_w3_0 (IntKind.wrap .i64 (n56 + (1 : Int))) l62
    else none
  else bif (decide ((PV.num (PV.fld p1 0)) = (6 : Int))) then
    c82v1 [49] l57 fun n63 p64 l65 =>
    ret0 l65
  else ret0 l57

theorem f74v1_w3b0_mem (k : Nat) (c59 : PV → (PV → R) → R) (c74v1 : PV → (List PV) → ((List PV) → R) → R) (c82v1 : (List Int) → (List PV) → (Int → PV → (List PV) → R) → R) (retF : (List PV) → R) (NX_w3 : St → R) (p1 : PV) (p47 : PV) (n56 : Int) (l57 : List PV) : exec (f74v1_E k c59 c74v1 c82v1) f74v1_cw3 (purgeK (f74v1_E k c59 c74v1 c82v1) f74v1_cw3 (loopK NX_w3 (kont (f74v1_E k c59 c74v1 c82v1) f74v1_code [1, 1, 0, 1, 0] (endK (f74v1_E k c59 c74v1 c82v1) Try.f74 [2000000, 2000001] f74v1_un retF)))) (f74v1_hw3_0 p1 p47 n56 l57) = f74v1_w3b0 c59 c74v1 c82v1 (fun y0 => retF y0) (fun n56 l57 => NX_w3 (f74v1_hw3_0 p1 p47 n56 l57)) p1 p47 n56 l57 := by kernel_rfl

noncomputable def f74v1_w3b0N (k : Nat) (c59 : PV → (PV → R) → R) (c74v1 : PV → (List PV) → ((List PV) → R) → R) (c82v1 : (List Int) → (List PV) → (Int → PV → (List PV) → R) → R) (ret0 : (List PV) → R) (next_w3_0 : Int → (List PV) → R) (p1 : PV) (p47 : PV) (n56 : Int) (l57 : List PV) : R :=
  f74v1_w3b0 c59 c74v1 c82v1 ret0 next_w3_0 p1 p47 n56 l57
theorem f74v1_w3b0_eq (k : Nat) (c59 : PV → (PV → R) → R) (c74v1 : PV → (List PV) → ((List PV) → R) → R) (c82v1 : (List Int) → (List PV) → (Int → PV → (List PV) → R) → R) (retF : (List PV) → R) (NX_w3 : St → R) (p1 : PV) (p47 : PV) (n56 : Int) (l57 : List PV) : exec (f74v1_E k c59 c74v1 c82v1) f74v1_cw3 (purgeK (f74v1_E k c59 c74v1 c82v1) f74v1_cw3 (loopK NX_w3 (kont (f74v1_E k c59 c74v1 c82v1) f74v1_code [1, 1, 0, 1, 0] (endK (f74v1_E k c59 c74v1 c82v1) Try.f74 [2000000, 2000001] f74v1_un retF)))) (f74v1_hw3_0 p1 p47 n56 l57) = f74v1_w3b0N k c59 c74v1 c82v1 (fun y0 => retF y0) (fun n56 l57 => NX_w3 (f74v1_hw3_0 p1 p47 n56 l57)) p1 p47 n56 l57 :=
  (f74v1_w3b0_mem k c59 c74v1 c82v1 retF NX_w3 p1 p47 n56 l57)

noncomputable def f74v1_w3B (k : Nat) (c59 : PV → (PV → R) → R) (c74v1 : PV → (List PV) → ((List PV) → R) → R) (c82v1 : (List Int) → (List PV) → (Int → PV → (List PV) → R) → R) (ret0 : (List PV) → R) (p1 : PV) (p47 : PV) (nx : Int × (List PV) → R) : Int × (List PV) → R := (fun s => f74v1_w3b0N k c59 c74v1 c82v1 ret0 (fun n56 l57 => nx (n56, l57)) p1 p47 s.1 s.2)
noncomputable def f74v1_w3N (k : Nat) (c59 : PV → (PV → R) → R) (c74v1 : PV → (List PV) → ((List PV) → R) → R) (c82v1 : (List Int) → (List PV) → (Int → PV → (List PV) → R) → R) (ret0 : (List PV) → R) (p1 : PV) (p47 : PV) (n56 : Int) (l57 : List PV) : R := loopR (f74v1_w3B k c59 c74v1 c82v1 ret0 p1 p47) k (n56, l57)
theorem f74v1_w3_eq (k : Nat) (c59 : PV → (PV → R) → R) (c74v1 : PV → (List PV) → ((List PV) → R) → R) (c82v1 : (List Int) → (List PV) → (Int → PV → (List PV) → R) → R) (retF : (List PV) → R) (p1 : PV) (p47 : PV) (n56 : Int) (l57 : List PV) : f74v1_w3A k c59 c74v1 c82v1 retF p1 p47 n56 l57 = f74v1_w3N k c59 c74v1 c82v1 (fun y0 => retF y0) p1 p47 n56 l57 :=
  Eq.mp (by kernel_rfl) (loop_sim (E := (f74v1_E k c59 c74v1 c82v1)) (c := f74v1_cw3) (K := (kont (f74v1_E k c59 c74v1 c82v1) f74v1_code [1, 1, 0, 1, 0] (endK (f74v1_E k c59 c74v1 c82v1) Try.f74 [2000000, 2000001] f74v1_un retF))) (S := Int × (List PV)) (fun s => f74v1_hw3_0 p1 p47 s.1 s.2) (f74v1_w3B k c59 c74v1 c82v1 (fun y0 => retF y0) p1 p47) (fun NX s => by
    exact Eq.mp (by kernel_rfl) (f74v1_w3b0_eq k c59 c74v1 c82v1 retF NX p1 p47 s.1 s.2)) k (n56, l57))

noncomputable def f74v1_e (c59 : PV → (PV → R) → R) (c74v1 : PV → (List PV) → ((List PV) → R) → R) (c82v1 : (List Int) → (List PV) → (Int → PV → (List PV) → R) → R) (ret0 : (List PV) → R) (w1 : PV → Int → (List PV) → R) (w2 : PV → Int → (List PV) → R) (w3 : PV → Int → (List PV) → R) (p1 : PV) (l2 : List PV) : R :=
  bif (decide ((PV.num (PV.fld p1 0)) = (4 : Int))) then
    c82v1 [48] l2 fun n3 p4 l5 =>
    c59 p1 fun p6 =>
    w1 p6 0 l5
  else bif (decide ((PV.num (PV.fld p1 0)) = (5 : Int))) then
    c82v1 [49] l2 fun n25 p26 l27 =>
    c59 p1 fun p28 =>
    w2 p28 0 l27
  else c59 p1 fun p47 =>
  w3 p47 0 l2

theorem f74v1_e_mem (k : Nat) (c59 : PV → (PV → R) → R) (c74v1 : PV → (List PV) → ((List PV) → R) → R) (c82v1 : (List Int) → (List PV) → (Int → PV → (List PV) → R) → R) (retF : (List PV) → R) (p1 : PV) (l2 : List PV) : exec (f74v1_E k c59 c74v1 c82v1) f74v1_code (endK (f74v1_E k c59 c74v1 c82v1) Try.f74 [2000000, 2000001] f74v1_un retF) ⟨[.ptr 2000000 [], .val 30 p1, .undef, .undef, .undef, .undef, .undef, .undef, .undef, .undef, .undef, .undef, .undef, .undef, .undef, .undef, .undef, .undef, .undef, .undef, .undef, .undef, .undef, .undef, .undef, .undef, .undef, .undef, .undef, .undef, .undef, .undef, .undef, .undef, .undef, .undef, .undef], [(2000000, .box 76 (.agg 76 [.ptr 2000000 [], .own 43 2000001])), (2000001, .row 5 l2)]⟩ = f74v1_e c59 c74v1 c82v1 (fun y0 => retF y0) (fun p6 n15 l16 => f74v1_w1A k c59 c74v1 c82v1 retF p1 p6 n15 l16) (fun p28 n37 l38 => f74v1_w2A k c59 c74v1 c82v1 retF p1 p28 n37 l38) (fun p47 n56 l57 => f74v1_w3A k c59 c74v1 c82v1 retF p1 p47 n56 l57) p1 l2 := by kernel_rfl

noncomputable def f74v1_N (k : Nat) (c59 : PV → (PV → R) → R) (c74v1 : PV → (List PV) → ((List PV) → R) → R) (c82v1 : (List Int) → (List PV) → (Int → PV → (List PV) → R) → R) (ret0 : (List PV) → R) (p1 : PV) (l2 : List PV) : R :=
  f74v1_e c59 c74v1 c82v1 ret0 (fun p6 n15 l16 => f74v1_w1N k c59 c74v1 c82v1 ret0 p1 p6 n15 l16) (fun p28 n37 l38 => f74v1_w2N k c59 c74v1 c82v1 ret0 p1 p28 n37 l38) (fun p47 n56 l57 => f74v1_w3N k c59 c74v1 c82v1 ret0 p1 p47 n56 l57) p1 l2
theorem f74v1_eq (k : Nat) (c59 : PV → (PV → R) → R) (c74v1 : PV → (List PV) → ((List PV) → R) → R) (c82v1 : (List Int) → (List PV) → (Int → PV → (List PV) → R) → R) (retF : (List PV) → R) (p1 : PV) (l2 : List PV) : exec (f74v1_E k c59 c74v1 c82v1) f74v1_code (endK (f74v1_E k c59 c74v1 c82v1) Try.f74 [2000000, 2000001] f74v1_un retF) ⟨[.ptr 2000000 [], .val 30 p1, .undef, .undef, .undef, .undef, .undef, .undef, .undef, .undef, .undef, .undef, .undef, .undef, .undef, .undef, .undef, .undef, .undef, .undef, .undef, .undef, .undef, .undef, .undef, .undef, .undef, .undef, .undef, .undef, .undef, .undef, .undef, .undef, .undef, .undef, .undef], [(2000000, .box 76 (.agg 76 [.ptr 2000000 [], .own 43 2000001])), (2000001, .row 5 l2)]⟩ = f74v1_N k c59 c74v1 c82v1 (fun y0 => retF y0) p1 l2 :=
  (f74v1_e_mem k c59 c74v1 c82v1 retF p1 l2).trans (by rw [show (fun p6 n15 l16 => f74v1_w1A k c59 c74v1 c82v1 retF p1 p6 n15 l16) = (fun p6 n15 l16 => f74v1_w1N k c59 c74v1 c82v1 (fun y0 => retF y0) p1 p6 n15 l16) from funext fun p6 => funext fun n15 => funext fun l16 => f74v1_w1_eq k c59 c74v1 c82v1 retF p1 p6 n15 l16, show (fun p28 n37 l38 => f74v1_w2A k c59 c74v1 c82v1 retF p1 p28 n37 l38) = (fun p28 n37 l38 => f74v1_w2N k c59 c74v1 c82v1 (fun y0 => retF y0) p1 p28 n37 l38) from funext fun p28 => funext fun n37 => funext fun l38 => f74v1_w2_eq k c59 c74v1 c82v1 retF p1 p28 n37 l38, show (fun p47 n56 l57 => f74v1_w3A k c59 c74v1 c82v1 retF p1 p47 n56 l57) = (fun p47 n56 l57 => f74v1_w3N k c59 c74v1 c82v1 (fun y0 => retF y0) p1 p47 n56 l57) from funext fun p47 => funext fun n56 => funext fun l57 => f74v1_w3_eq k c59 c74v1 c82v1 retF p1 p47 n56 l57]; rfl)

noncomputable def G74v1 : Nat → PV → (List PV) → ((List PV) → R) → R
  | 0, _, _, _ => none
  | k + 1, p1, l2, ret0 => f74v1_N k (G59 k) (G74v1 k) (G82v1 k) ret0 p1 l2
theorem S74v1 : ∀ k, Snd Try.prog 74 f74v1_I f74v1_O (fun x ret => G74v1 k x.1 x.2 (fun y0 => ret y0))
  | 0 => snd_none
  | k + 1 => snd_step (E := f74v1_E k (G59 k) (G74v1 k) (G82v1 k)) rfl laidOut noNums (orc_ok (S59 k).o f59_D_ok (orc_ok (S74v1 k).o f74v1_D_ok (orc_ok (S82v1 k).o f82v1_D_ok orc0_ok))) (f := 74) (fn := Try.f74) (code := f74v1_code) Try.func74 (by kernel_rfl) (drawsOk_of laidOut (orc_ok (S59 k).o f59_D_ok (orc_ok (S74v1 k).o f74v1_D_ok (orc_ok (S82v1 k).o f82v1_D_ok orc0_ok))) mixed (by kernel_rfl)) f74v1_un f74v1_un_ok [2000000, 2000001] (fun _ => rfl)
      (fun x ret => f74v1_eq k (G59 k) (G74v1 k) (G82v1 k) ret x.1 x.2)

/- catchpole/bits.put -/
noncomputable def f74_I : PV × PV × (List PV) → List SV × Obs := fun x => ([.ptr 2000000 [], .val 30 x.1], [(2000000, .box 76 (.agg 76 [.val 74 x.2.1, .own 43 2000001])), (2000001, .row 5 x.2.2)])
noncomputable def f74_D : List SV → Obs → Option (PV × PV × (List PV))
  | [.ptr 2000000 [], .val 30 p1], [(2000000, .box 76 (.agg 76 [.val 74 p2, .own 43 2000001])), (2000001, .row 5 l3)] => some (p1, p2, l3)
  | _, _ => none
theorem f74_D_ok (args : List SV) (B : Obs) (x : PV × PV × (List PV)) (h : f74_D args B = some x) : f74_I x = (args, B) := by
  unfold f74_D at h
  split at h
  · injection h with h; subst h; rfl
  · cases h
noncomputable def f74_O : Sum ((List PV)) (PV × (List PV)) → Out := (Sum.elim (fun y => ([], [(2000000, .box 76 (.agg 76 [.ptr 2000000 [], .own 43 2000001])), (2000001, .row 5 y)])) (fun y => ([], [(2000000, .box 76 (.agg 76 [.val 74 y.1, .own 43 2000001])), (2000001, .row 5 y.2)])))
noncomputable def f74_un : Out → Option (Sum ((List PV)) (PV × (List PV)))
  | ([], [(2000000, .box 76 (.agg 76 [.ptr 2000000 [], .own 43 2000001])), (2000001, .row 5 y0)]) => some (.inl y0)
  | ([], [(2000000, .box 76 (.agg 76 [.val 74 y0, .own 43 2000001])), (2000001, .row 5 y1)]) => some (.inr (y0, y1))
  | _ => none
theorem f74_un_ok (o : Out) (y : Sum ((List PV)) (PV × (List PV))) (h : f74_un o = some y) : o = f74_O y := by
  unfold f74_un at h
  split at h
  · injection h with h; subst h; rfl
  · injection h with h; subst h; rfl
  · cases h
noncomputable def f74_msk : Nat → Option (List Nat) := fun key => bif key == 21 then some [0, 3, 17, 18, 19] else none
noncomputable def f74_C (c59 : PV → (PV → R) → R) (c74 : PV → PV → (List PV) → ((List PV) → R) → (PV → (List PV) → R) → R) (c74v1 : PV → (List PV) → ((List PV) → R) → R) (c82 : (List Int) → PV → (List PV) → (Int → PV → (List PV) → R) → R) (c82v1 : (List Int) → (List PV) → (Int → PV → (List PV) → R) → R) : Oracle := orc 59 f59_D f59_O (fun x ret => c59 x (fun y0 => ret y0)) <| orc 74 f74_D f74_O (fun x ret => c74 x.1 x.2.1 x.2.2 (fun y0 => ret (.inl y0)) (fun y0 y1 => ret (.inr (y0, y1)))) <| orc 74 f74v1_D f74v1_O (fun x ret => c74v1 x.1 x.2 (fun y0 => ret y0)) <| orc 82 f82_D f82_O (fun x ret => c82 x.1 x.2.1 x.2.2 (fun y0 y1 y2 => ret (y0, y1, y2))) <| orc 82 f82v1_D f82v1_O (fun x ret => c82v1 x.1 x.2 (fun y0 y1 y2 => ret (y0, y1, y2))) <| orc0
noncomputable def f74_E (k : Nat) (c59 : PV → (PV → R) → R) (c74 : PV → PV → (List PV) → ((List PV) → R) → (PV → (List PV) → R) → R) (c74v1 : PV → (List PV) → ((List PV) → R) → R) (c82 : (List Int) → PV → (List PV) → (Int → PV → (List PV) → R) → R) (c82v1 : (List Int) → (List PV) → (Int → PV → (List PV) → R) → R) : Env := { P := Try.prog, nilOwn := fun d => false, fldOwn := fun d i => false, ownPar := ownPars, ownRet := false, mask := f74_msk, fuel := k, C := f74_C c59 c74 c74v1 c82 c82v1 }
noncomputable def f74_code : Code := Try.f74.body.getD .skip
noncomputable def f74_cw1 : Code := subC f74_code [1, 1, 0, 1, 0, 0]
noncomputable def f74_hw1_0 (p1 : PV) (p7 : PV) (n16 : Int) (l17 : List PV) : St := ⟨[.ptr 2000000 [], .dead, .dead, .ptr 3 [], .dead, .dead, .dead, .dead, .dead, .dead, .dead, .dead, .dead, .dead, .dead, .dead, .dead, .val 28 p7, .int .i64 (List.length (PV.els p7) : Int), .int .i64 n16, .dead, .dead, .dead, .dead, .dead, .dead, .dead, .dead, .dead, .dead, .dead, .dead, .dead, .dead, .dead, .dead, .dead], [(3, .box 30 (.val 30 p1)), (2000000, .box 76 (.agg 76 [.ptr 2000000 [], .own 43 2000001])), (2000001, .row 5 l17)]⟩
noncomputable def f74_w1A (k : Nat) (c59 : PV → (PV → R) → R) (c74 : PV → PV → (List PV) → ((List PV) → R) → (PV → (List PV) → R) → R) (c74v1 : PV → (List PV) → ((List PV) → R) → R) (c82 : (List Int) → PV → (List PV) → (Int → PV → (List PV) → R) → R) (c82v1 : (List Int) → (List PV) → (Int → PV → (List PV) → R) → R) (retF : Sum ((List PV)) (PV × (List PV)) → R) (p1 : PV) (p7 : PV) (n16 : Int) (l17 : List PV) : R := loopM (f74_E k c59 c74 c74v1 c82 c82v1) f74_cw1 (kont (f74_E k c59 c74 c74v1 c82 c82v1) f74_code [1, 1, 0, 1, 0] (endK (f74_E k c59 c74 c74v1 c82 c82v1) Try.f74 [2000000, 2000001] f74_un retF)) k (f74_hw1_0 p1 p7 n16 l17)
noncomputable def f74_w1b0 (c59 : PV → (PV → R) → R) (c74 : PV → PV → (List PV) → ((List PV) → R) → (PV → (List PV) → R) → R) (c74v1 : PV → (List PV) → ((List PV) → R) → R) (c82 : (List Int) → PV → (List PV) → (Int → PV → (List PV) → R) → R) (c82v1 : (List Int) → (List PV) → (Int → PV → (List PV) → R) → R) (ret0 : (List PV) → R) (ret1 : PV → (List PV) → R) (next_w1_0 : Int → (List PV) → R) (p1 : PV) (p7 : PV) (n16 : Int) (l17 : List PV) : R :=
  bif (decide (n16 < (List.length (PV.els p7) : Int))) then
    bif (true && decide ((0 : Int) ≤ n16) && decide (n16 < (List.length (PV.els p7) : Int))) then
      bif (decide ((PV.num (PV.fld p1 0)) = (6 : Int))) then
        c82v1 [48] l17 fun n18 p19 l20 =>
        c74v1 (List.getD (PV.els p7) (n16).toNat PV.nil) l20 fun l21 =>
        next_w1_0 (IntKind.wrap .i64 (n16 + (1 : Int))) l21
      else c74v1 (List.getD (PV.els p7) (n16).toNat PV.nil) l17 fun l22 =>
      next_w1_0 (IntKind.wrap .i64 (n16 + (1 : Int))) l22
    else none
  else bif (decide ((PV.num (PV.fld p1 0)) = (6 : Int))) then
    c82v1 [49] l17 fun n23 p24 l25 =>
    ret0 l25
  else ret0 l17

theorem f74_w1b0_mem (k : Nat) (c59 : PV → (PV → R) → R) (c74 : PV → PV → (List PV) → ((List PV) → R) → (PV → (List PV) → R) → R) (c74v1 : PV → (List PV) → ((List PV) → R) → R) (c82 : (List Int) → PV → (List PV) → (Int → PV → (List PV) → R) → R) (c82v1 : (List Int) → (List PV) → (Int → PV → (List PV) → R) → R) (retF : Sum ((List PV)) (PV × (List PV)) → R) (NX_w1 : St → R) (p1 : PV) (p7 : PV) (n16 : Int) (l17 : List PV) : exec (f74_E k c59 c74 c74v1 c82 c82v1) f74_cw1 (purgeK (f74_E k c59 c74 c74v1 c82 c82v1) f74_cw1 (loopK NX_w1 (kont (f74_E k c59 c74 c74v1 c82 c82v1) f74_code [1, 1, 0, 1, 0] (endK (f74_E k c59 c74 c74v1 c82 c82v1) Try.f74 [2000000, 2000001] f74_un retF)))) (f74_hw1_0 p1 p7 n16 l17) = f74_w1b0 c59 c74 c74v1 c82 c82v1 (fun y0 => retF (.inl y0)) (fun y0 y1 => retF (.inr (y0, y1))) (fun n16 l17 => NX_w1 (f74_hw1_0 p1 p7 n16 l17)) p1 p7 n16 l17 := by kernel_rfl

noncomputable def f74_w1b0N (k : Nat) (c59 : PV → (PV → R) → R) (c74 : PV → PV → (List PV) → ((List PV) → R) → (PV → (List PV) → R) → R) (c74v1 : PV → (List PV) → ((List PV) → R) → R) (c82 : (List Int) → PV → (List PV) → (Int → PV → (List PV) → R) → R) (c82v1 : (List Int) → (List PV) → (Int → PV → (List PV) → R) → R) (ret0 : (List PV) → R) (ret1 : PV → (List PV) → R) (next_w1_0 : Int → (List PV) → R) (p1 : PV) (p7 : PV) (n16 : Int) (l17 : List PV) : R :=
  f74_w1b0 c59 c74 c74v1 c82 c82v1 ret0 ret1 next_w1_0 p1 p7 n16 l17
theorem f74_w1b0_eq (k : Nat) (c59 : PV → (PV → R) → R) (c74 : PV → PV → (List PV) → ((List PV) → R) → (PV → (List PV) → R) → R) (c74v1 : PV → (List PV) → ((List PV) → R) → R) (c82 : (List Int) → PV → (List PV) → (Int → PV → (List PV) → R) → R) (c82v1 : (List Int) → (List PV) → (Int → PV → (List PV) → R) → R) (retF : Sum ((List PV)) (PV × (List PV)) → R) (NX_w1 : St → R) (p1 : PV) (p7 : PV) (n16 : Int) (l17 : List PV) : exec (f74_E k c59 c74 c74v1 c82 c82v1) f74_cw1 (purgeK (f74_E k c59 c74 c74v1 c82 c82v1) f74_cw1 (loopK NX_w1 (kont (f74_E k c59 c74 c74v1 c82 c82v1) f74_code [1, 1, 0, 1, 0] (endK (f74_E k c59 c74 c74v1 c82 c82v1) Try.f74 [2000000, 2000001] f74_un retF)))) (f74_hw1_0 p1 p7 n16 l17) = f74_w1b0N k c59 c74 c74v1 c82 c82v1 (fun y0 => retF (.inl y0)) (fun y0 y1 => retF (.inr (y0, y1))) (fun n16 l17 => NX_w1 (f74_hw1_0 p1 p7 n16 l17)) p1 p7 n16 l17 :=
  (f74_w1b0_mem k c59 c74 c74v1 c82 c82v1 retF NX_w1 p1 p7 n16 l17)

noncomputable def f74_w1B (k : Nat) (c59 : PV → (PV → R) → R) (c74 : PV → PV → (List PV) → ((List PV) → R) → (PV → (List PV) → R) → R) (c74v1 : PV → (List PV) → ((List PV) → R) → R) (c82 : (List Int) → PV → (List PV) → (Int → PV → (List PV) → R) → R) (c82v1 : (List Int) → (List PV) → (Int → PV → (List PV) → R) → R) (ret0 : (List PV) → R) (ret1 : PV → (List PV) → R) (p1 : PV) (p7 : PV) (nx : Int × (List PV) → R) : Int × (List PV) → R := (fun s => f74_w1b0N k c59 c74 c74v1 c82 c82v1 ret0 ret1 (fun n16 l17 => nx (n16, l17)) p1 p7 s.1 s.2)
noncomputable def f74_w1N (k : Nat) (c59 : PV → (PV → R) → R) (c74 : PV → PV → (List PV) → ((List PV) → R) → (PV → (List PV) → R) → R) (c74v1 : PV → (List PV) → ((List PV) → R) → R) (c82 : (List Int) → PV → (List PV) → (Int → PV → (List PV) → R) → R) (c82v1 : (List Int) → (List PV) → (Int → PV → (List PV) → R) → R) (ret0 : (List PV) → R) (ret1 : PV → (List PV) → R) (p1 : PV) (p7 : PV) (n16 : Int) (l17 : List PV) : R := loopR (f74_w1B k c59 c74 c74v1 c82 c82v1 ret0 ret1 p1 p7) k (n16, l17)
theorem f74_w1_eq (k : Nat) (c59 : PV → (PV → R) → R) (c74 : PV → PV → (List PV) → ((List PV) → R) → (PV → (List PV) → R) → R) (c74v1 : PV → (List PV) → ((List PV) → R) → R) (c82 : (List Int) → PV → (List PV) → (Int → PV → (List PV) → R) → R) (c82v1 : (List Int) → (List PV) → (Int → PV → (List PV) → R) → R) (retF : Sum ((List PV)) (PV × (List PV)) → R) (p1 : PV) (p7 : PV) (n16 : Int) (l17 : List PV) : f74_w1A k c59 c74 c74v1 c82 c82v1 retF p1 p7 n16 l17 = f74_w1N k c59 c74 c74v1 c82 c82v1 (fun y0 => retF (.inl y0)) (fun y0 y1 => retF (.inr (y0, y1))) p1 p7 n16 l17 :=
  Eq.mp (by kernel_rfl) (loop_sim (E := (f74_E k c59 c74 c74v1 c82 c82v1)) (c := f74_cw1) (K := (kont (f74_E k c59 c74 c74v1 c82 c82v1) f74_code [1, 1, 0, 1, 0] (endK (f74_E k c59 c74 c74v1 c82 c82v1) Try.f74 [2000000, 2000001] f74_un retF))) (S := Int × (List PV)) (fun s => f74_hw1_0 p1 p7 s.1 s.2) (f74_w1B k c59 c74 c74v1 c82 c82v1 (fun y0 => retF (.inl y0)) (fun y0 y1 => retF (.inr (y0, y1))) p1 p7) (fun NX s => by
    exact Eq.mp (by kernel_rfl) (f74_w1b0_eq k c59 c74 c74v1 c82 c82v1 retF NX p1 p7 s.1 s.2)) k (n16, l17))

noncomputable def f74_cw2 : Code := subC f74_code [1, 1, 0, 1, 0, 0]
noncomputable def f74_hw2_0 (p1 : PV) (p29 : PV) (n38 : Int) (l39 : List PV) : St := ⟨[.ptr 2000000 [], .dead, .dead, .ptr 3 [], .dead, .dead, .dead, .dead, .dead, .dead, .dead, .dead, .dead, .dead, .dead, .dead, .dead, .val 28 p29, .int .i64 (List.length (PV.els p29) : Int), .int .i64 n38, .dead, .dead, .dead, .dead, .dead, .dead, .dead, .dead, .dead, .dead, .dead, .dead, .dead, .dead, .dead, .dead, .dead], [(3, .box 30 (.val 30 p1)), (2000000, .box 76 (.agg 76 [.ptr 2000000 [], .own 43 2000001])), (2000001, .row 5 l39)]⟩
noncomputable def f74_w2A (k : Nat) (c59 : PV → (PV → R) → R) (c74 : PV → PV → (List PV) → ((List PV) → R) → (PV → (List PV) → R) → R) (c74v1 : PV → (List PV) → ((List PV) → R) → R) (c82 : (List Int) → PV → (List PV) → (Int → PV → (List PV) → R) → R) (c82v1 : (List Int) → (List PV) → (Int → PV → (List PV) → R) → R) (retF : Sum ((List PV)) (PV × (List PV)) → R) (p1 : PV) (p29 : PV) (n38 : Int) (l39 : List PV) : R := loopM (f74_E k c59 c74 c74v1 c82 c82v1) f74_cw2 (kont (f74_E k c59 c74 c74v1 c82 c82v1) f74_code [1, 1, 0, 1, 0] (endK (f74_E k c59 c74 c74v1 c82 c82v1) Try.f74 [2000000, 2000001] f74_un retF)) k (f74_hw2_0 p1 p29 n38 l39)
noncomputable def f74_w2b0 (c59 : PV → (PV → R) → R) (c74 : PV → PV → (List PV) → ((List PV) → R) → (PV → (List PV) → R) → R) (c74v1 : PV → (List PV) → ((List PV) → R) → R) (c82 : (List Int) → PV → (List PV) → (Int → PV → (List PV) → R) → R) (c82v1 : (List Int) → (List PV) → (Int → PV → (List PV) → R) → R) (ret0 : (List PV) → R) (ret1 : PV → (List PV) → R) (next_w2_0 : Int → (List PV) → R) (p1 : PV) (p29 : PV) (n38 : Int) (l39 : List PV) : R :=
  bif (decide (n38 < (List.length (PV.els p29) : Int))) then
    bif (true && decide ((0 : Int) ≤ n38) && decide (n38 < (List.length (PV.els p29) : Int))) then
      bif (decide ((PV.num (PV.fld p1 0)) = (6 : Int))) then
        c82v1 [48] l39 fun n40 p41 l42 =>
        c74v1 (List.getD (PV.els p29) (n38).toNat PV.nil) l42 fun l43 =>
        next_w2_0 (IntKind.wrap .i64 (n38 + (1 : Int))) l43
      else c74v1 (List.getD (PV.els p29) (n38).toNat PV.nil) l39 fun l44 =>
      next_w2_0 (IntKind.wrap .i64 (n38 + (1 : Int))) l44
    else none
  else bif (decide ((PV.num (PV.fld p1 0)) = (6 : Int))) then
    c82v1 [49] l39 fun n45 p46 l47 =>
    ret0 l47
  else ret0 l39

theorem f74_w2b0_mem (k : Nat) (c59 : PV → (PV → R) → R) (c74 : PV → PV → (List PV) → ((List PV) → R) → (PV → (List PV) → R) → R) (c74v1 : PV → (List PV) → ((List PV) → R) → R) (c82 : (List Int) → PV → (List PV) → (Int → PV → (List PV) → R) → R) (c82v1 : (List Int) → (List PV) → (Int → PV → (List PV) → R) → R) (retF : Sum ((List PV)) (PV × (List PV)) → R) (NX_w2 : St → R) (p1 : PV) (p29 : PV) (n38 : Int) (l39 : List PV) : exec (f74_E k c59 c74 c74v1 c82 c82v1) f74_cw2 (purgeK (f74_E k c59 c74 c74v1 c82 c82v1) f74_cw2 (loopK NX_w2 (kont (f74_E k c59 c74 c74v1 c82 c82v1) f74_code [1, 1, 0, 1, 0] (endK (f74_E k c59 c74 c74v1 c82 c82v1) Try.f74 [2000000, 2000001] f74_un retF)))) (f74_hw2_0 p1 p29 n38 l39) = f74_w2b0 c59 c74 c74v1 c82 c82v1 (fun y0 => retF (.inl y0)) (fun y0 y1 => retF (.inr (y0, y1))) (fun n38 l39 => NX_w2 (f74_hw2_0 p1 p29 n38 l39)) p1 p29 n38 l39 := by kernel_rfl

noncomputable def f74_w2b0N (k : Nat) (c59 : PV → (PV → R) → R) (c74 : PV → PV → (List PV) → ((List PV) → R) → (PV → (List PV) → R) → R) (c74v1 : PV → (List PV) → ((List PV) → R) → R) (c82 : (List Int) → PV → (List PV) → (Int → PV → (List PV) → R) → R) (c82v1 : (List Int) → (List PV) → (Int → PV → (List PV) → R) → R) (ret0 : (List PV) → R) (ret1 : PV → (List PV) → R) (next_w2_0 : Int → (List PV) → R) (p1 : PV) (p29 : PV) (n38 : Int) (l39 : List PV) : R :=
  f74_w2b0 c59 c74 c74v1 c82 c82v1 ret0 ret1 next_w2_0 p1 p29 n38 l39
theorem f74_w2b0_eq (k : Nat) (c59 : PV → (PV → R) → R) (c74 : PV → PV → (List PV) → ((List PV) → R) → (PV → (List PV) → R) → R) (c74v1 : PV → (List PV) → ((List PV) → R) → R) (c82 : (List Int) → PV → (List PV) → (Int → PV → (List PV) → R) → R) (c82v1 : (List Int) → (List PV) → (Int → PV → (List PV) → R) → R) (retF : Sum ((List PV)) (PV × (List PV)) → R) (NX_w2 : St → R) (p1 : PV) (p29 : PV) (n38 : Int) (l39 : List PV) : exec (f74_E k c59 c74 c74v1 c82 c82v1) f74_cw2 (purgeK (f74_E k c59 c74 c74v1 c82 c82v1) f74_cw2 (loopK NX_w2 (kont (f74_E k c59 c74 c74v1 c82 c82v1) f74_code [1, 1, 0, 1, 0] (endK (f74_E k c59 c74 c74v1 c82 c82v1) Try.f74 [2000000, 2000001] f74_un retF)))) (f74_hw2_0 p1 p29 n38 l39) = f74_w2b0N k c59 c74 c74v1 c82 c82v1 (fun y0 => retF (.inl y0)) (fun y0 y1 => retF (.inr (y0, y1))) (fun n38 l39 => NX_w2 (f74_hw2_0 p1 p29 n38 l39)) p1 p29 n38 l39 :=
  (f74_w2b0_mem k c59 c74 c74v1 c82 c82v1 retF NX_w2 p1 p29 n38 l39)

noncomputable def f74_w2B (k : Nat) (c59 : PV → (PV → R) → R) (c74 : PV → PV → (List PV) → ((List PV) → R) → (PV → (List PV) → R) → R) (c74v1 : PV → (List PV) → ((List PV) → R) → R) (c82 : (List Int) → PV → (List PV) → (Int → PV → (List PV) → R) → R) (c82v1 : (List Int) → (List PV) → (Int → PV → (List PV) → R) → R) (ret0 : (List PV) → R) (ret1 : PV → (List PV) → R) (p1 : PV) (p29 : PV) (nx : Int × (List PV) → R) : Int × (List PV) → R := (fun s => f74_w2b0N k c59 c74 c74v1 c82 c82v1 ret0 ret1 (fun n38 l39 => nx (n38, l39)) p1 p29 s.1 s.2)
noncomputable def f74_w2N (k : Nat) (c59 : PV → (PV → R) → R) (c74 : PV → PV → (List PV) → ((List PV) → R) → (PV → (List PV) → R) → R) (c74v1 : PV → (List PV) → ((List PV) → R) → R) (c82 : (List Int) → PV → (List PV) → (Int → PV → (List PV) → R) → R) (c82v1 : (List Int) → (List PV) → (Int → PV → (List PV) → R) → R) (ret0 : (List PV) → R) (ret1 : PV → (List PV) → R) (p1 : PV) (p29 : PV) (n38 : Int) (l39 : List PV) : R := loopR (f74_w2B k c59 c74 c74v1 c82 c82v1 ret0 ret1 p1 p29) k (n38, l39)
theorem f74_w2_eq (k : Nat) (c59 : PV → (PV → R) → R) (c74 : PV → PV → (List PV) → ((List PV) → R) → (PV → (List PV) → R) → R) (c74v1 : PV → (List PV) → ((List PV) → R) → R) (c82 : (List Int) → PV → (List PV) → (Int → PV → (List PV) → R) → R) (c82v1 : (List Int) → (List PV) → (Int → PV → (List PV) → R) → R) (retF : Sum ((List PV)) (PV × (List PV)) → R) (p1 : PV) (p29 : PV) (n38 : Int) (l39 : List PV) : f74_w2A k c59 c74 c74v1 c82 c82v1 retF p1 p29 n38 l39 = f74_w2N k c59 c74 c74v1 c82 c82v1 (fun y0 => retF (.inl y0)) (fun y0 y1 => retF (.inr (y0, y1))) p1 p29 n38 l39 :=
  Eq.mp (by kernel_rfl) (loop_sim (E := (f74_E k c59 c74 c74v1 c82 c82v1)) (c := f74_cw2) (K := (kont (f74_E k c59 c74 c74v1 c82 c82v1) f74_code [1, 1, 0, 1, 0] (endK (f74_E k c59 c74 c74v1 c82 c82v1) Try.f74 [2000000, 2000001] f74_un retF))) (S := Int × (List PV)) (fun s => f74_hw2_0 p1 p29 s.1 s.2) (f74_w2B k c59 c74 c74v1 c82 c82v1 (fun y0 => retF (.inl y0)) (fun y0 y1 => retF (.inr (y0, y1))) p1 p29) (fun NX s => by
    exact Eq.mp (by kernel_rfl) (f74_w2b0_eq k c59 c74 c74v1 c82 c82v1 retF NX p1 p29 s.1 s.2)) k (n38, l39))

noncomputable def f74_cw3 : Code := subC f74_code [1, 1, 0, 1, 0, 0]
noncomputable def f74_hw3_0 (p1 : PV) (p48 : PV) (n72 : Int) (p73 : PV) (l74 : List PV) : St := ⟨[.ptr 2000000 [], .dead, .dead, .ptr 3 [], .dead, .dead, .dead, .dead, .dead, .dead, .dead, .dead, .dead, .dead, .dead, .dead, .dead, .val 28 p48, .int .i64 (List.length (PV.els p48) : Int), .int .i64 n72, .dead, .dead, .dead, .dead, .dead, .dead, .dead, .dead, .dead, .dead, .dead, .dead, .dead, .dead, .dead, .dead, .dead], [(3, .box 30 (.val 30 p1)), (2000000, .box 76 (.agg 76 [.val 74 p73, .own 43 2000001])), (2000001, .row 5 l74)]⟩
noncomputable def f74_hw3_1 (p1 : PV) (p48 : PV) (n85 : Int) (l86 : List PV) : St := ⟨[.ptr 2000000 [], .dead, .dead, .ptr 3 [], .dead, .dead, .dead, .dead, .dead, .dead, .dead, .dead, .dead, .dead, .dead, .dead, .dead, .val 28 p48, .int .i64 (List.length (PV.els p48) : Int), .int .i64 n85, .dead, .dead, .dead, .dead, .dead, .dead, .dead, .dead, .dead, .dead, .dead, .dead, .dead, .dead, .dead, .dead, .dead], [(3, .box 30 (.val 30 p1)), (2000000, .box 76 (.agg 76 [.ptr 2000000 [], .own 43 2000001])), (2000001, .row 5 l86)]⟩
noncomputable def f74_w3A (k : Nat) (c59 : PV → (PV → R) → R) (c74 : PV → PV → (List PV) → ((List PV) → R) → (PV → (List PV) → R) → R) (c74v1 : PV → (List PV) → ((List PV) → R) → R) (c82 : (List Int) → PV → (List PV) → (Int → PV → (List PV) → R) → R) (c82v1 : (List Int) → (List PV) → (Int → PV → (List PV) → R) → R) (retF : Sum ((List PV)) (PV × (List PV)) → R) (p1 : PV) (p48 : PV) (n72 : Int) (p73 : PV) (l74 : List PV) : R := loopM (f74_E k c59 c74 c74v1 c82 c82v1) f74_cw3 (kont (f74_E k c59 c74 c74v1 c82 c82v1) f74_code [1, 1, 0, 1, 0] (endK (f74_E k c59 c74 c74v1 c82 c82v1) Try.f74 [2000000, 2000001] f74_un retF)) k (f74_hw3_0 p1 p48 n72 p73 l74)
noncomputable def f74_w3b0 (c59 : PV → (PV → R) → R) (c74 : PV → PV → (List PV) → ((List PV) → R) → (PV → (List PV) → R) → R) (c74v1 : PV → (List PV) → ((List PV) → R) → R) (c82 : (List Int) → PV → (List PV) → (Int → PV → (List PV) → R) → R) (c82v1 : (List Int) → (List PV) → (Int → PV → (List PV) → R) → R) (ret0 : (List PV) → R) (ret1 : PV → (List PV) → R) (next_w3_0 : Int → PV → (List PV) → R) (next_w3_1 : Int → (List PV) → R) (p1 : PV) (p48 : PV) (n72 : Int) (p73 : PV) (l74 : List PV) : R :=
  bif (decide (n72 < (List.length (PV.els p48) : Int))) then
    bif (true && decide ((0 : Int) ≤ n72) && decide (n72 < (List.length (PV.els p48) : Int))) then
      bif (decide ((PV.num (PV.fld p1 0)) = (6 : Int))) then
        c82 [48] p73 l74 fun n75 p76 l77 =>
        c74v1 (List.getD (PV.els p48) (n72).toNat PV.nil) l77 fun l78 =>
        next_w3_1 (IntKind.wrap .i64 (n72 + (1 : Int))) l78
      else c74 (List.getD (PV.els p48) (n72).toNat PV.nil) p73 l74 (fun l79 =>
      next_w3_1 (IntKind.wrap .i64 (n72 + (1 : Int))) l79) (fun p80 l81 =>
      next_w3_0 (IntKind.wrap .i64 (n72 + (1 : Int))) p80 l81)
    else none
  else bif (decide ((PV.num (PV.fld p1 0)) = (6 : Int))) then
    c82 [49] p73 l74 fun n82 p83 l84 =>
    ret0 l84
  else ret1 p73 l74

theorem f74_w3b0_mem (k : Nat) (c59 : PV → (PV → R) → R) (c74 : PV → PV → (List PV) → ((List PV) → R) → (PV → (List PV) → R) → R) (c74v1 : PV → (List PV) → ((List PV) → R) → R) (c82 : (List Int) → PV → (List PV) → (Int → PV → (List PV) → R) → R) (c82v1 : (List Int) → (List PV) → (Int → PV → (List PV) → R) → R) (retF : Sum ((List PV)) (PV × (List PV)) → R) (NX_w3 : St → R) (p1 : PV) (p48 : PV) (n72 : Int) (p73 : PV) (l74 : List PV) : exec (f74_E k c59 c74 c74v1 c82 c82v1) f74_cw3 (purgeK (f74_E k c59 c74 c74v1 c82 c82v1) f74_cw3 (loopK NX_w3 (kont (f74_E k c59 c74 c74v1 c82 c82v1) f74_code [1, 1, 0, 1, 0] (endK (f74_E k c59 c74 c74v1 c82 c82v1) Try.f74 [2000000, 2000001] f74_un retF)))) (f74_hw3_0 p1 p48 n72 p73 l74) = f74_w3b0 c59 c74 c74v1 c82 c82v1 (fun y0 => retF (.inl y0)) (fun y0 y1 => retF (.inr (y0, y1))) (fun n72 p73 l74 => NX_w3 (f74_hw3_0 p1 p48 n72 p73 l74)) (fun n85 l86 => NX_w3 (f74_hw3_1 p1 p48 n85 l86)) p1 p48 n72 p73 l74 := by kernel_rfl

noncomputable def f74_w3b0N (k : Nat) (c59 : PV → (PV → R) → R) (c74 : PV → PV → (List PV) → ((List PV) → R) → (PV → (List PV) → R) → R) (c74v1 : PV → (List PV) → ((List PV) → R) → R) (c82 : (List Int) → PV → (List PV) → (Int → PV → (List PV) → R) → R) (c82v1 : (List Int) → (List PV) → (Int → PV → (List PV) → R) → R) (ret0 : (List PV) → R) (ret1 : PV → (List PV) → R) (next_w3_0 : Int → PV → (List PV) → R) (next_w3_1 : Int → (List PV) → R) (p1 : PV) (p48 : PV) (n72 : Int) (p73 : PV) (l74 : List PV) : R :=
  f74_w3b0 c59 c74 c74v1 c82 c82v1 ret0 ret1 next_w3_0 next_w3_1 p1 p48 n72 p73 l74
theorem f74_w3b0_eq (k : Nat) (c59 : PV → (PV → R) → R) (c74 : PV → PV → (List PV) → ((List PV) → R) → (PV → (List PV) → R) → R) (c74v1 : PV → (List PV) → ((List PV) → R) → R) (c82 : (List Int) → PV → (List PV) → (Int → PV → (List PV) → R) → R) (c82v1 : (List Int) → (List PV) → (Int → PV → (List PV) → R) → R) (retF : Sum ((List PV)) (PV × (List PV)) → R) (NX_w3 : St → R) (p1 : PV) (p48 : PV) (n72 : Int) (p73 : PV) (l74 : List PV) : exec (f74_E k c59 c74 c74v1 c82 c82v1) f74_cw3 (purgeK (f74_E k c59 c74 c74v1 c82 c82v1) f74_cw3 (loopK NX_w3 (kont (f74_E k c59 c74 c74v1 c82 c82v1) f74_code [1, 1, 0, 1, 0] (endK (f74_E k c59 c74 c74v1 c82 c82v1) Try.f74 [2000000, 2000001] f74_un retF)))) (f74_hw3_0 p1 p48 n72 p73 l74) = f74_w3b0N k c59 c74 c74v1 c82 c82v1 (fun y0 => retF (.inl y0)) (fun y0 y1 => retF (.inr (y0, y1))) (fun n72 p73 l74 => NX_w3 (f74_hw3_0 p1 p48 n72 p73 l74)) (fun n85 l86 => NX_w3 (f74_hw3_1 p1 p48 n85 l86)) p1 p48 n72 p73 l74 :=
  (f74_w3b0_mem k c59 c74 c74v1 c82 c82v1 retF NX_w3 p1 p48 n72 p73 l74)

noncomputable def f74_w3b1 (c59 : PV → (PV → R) → R) (c74 : PV → PV → (List PV) → ((List PV) → R) → (PV → (List PV) → R) → R) (c74v1 : PV → (List PV) → ((List PV) → R) → R) (c82 : (List Int) → PV → (List PV) → (Int → PV → (List PV) → R) → R) (c82v1 : (List Int) → (List PV) → (Int → PV → (List PV) → R) → R) (ret0 : (List PV) → R) (ret1 : PV → (List PV) → R) (next_w3_0 : Int → PV → (List PV) → R) (next_w3_1 : Int → (List PV) → R) (p1 : PV) (p48 : PV) (n85 : Int) (l86 : List PV) : R :=
  bif (decide (n85 < (List.length (PV.els p48) : Int))) then
    bif (true && decide ((0 : Int) ≤ n85) && decide (n85 < (List.length (PV.els p48) : Int))) then
      bif (decide ((PV.num (PV.fld p1 0)) = (6 : Int))) then
        c82v1 [48] l86 fun n87 p88 l89 =>
        c74v1 (List.getD (PV.els p48) (n85).toNat PV.nil) l89 fun l90 =>
        next_w3_1 (IntKind.wrap .i64 (n85 + (1 : Int))) l90
      else c74v1 (List.getD (PV.els p48) (n85).toNat PV.nil) l86 fun l91 =>
      next_w3_1 (IntKind.wrap .i64 (n85 + (1 : Int))) l91
    else none
  else bif (decide ((PV.num (PV.fld p1 0)) = (6 : Int))) then
    c82v1 [49] l86 fun n92 p93 l94 =>
    ret0 l94
  else ret0 l86

theorem f74_w3b1_mem (k : Nat) (c59 : PV → (PV → R) → R) (c74 : PV → PV → (List PV) → ((List PV) → R) → (PV → (List PV) → R) → R) (c74v1 : PV → (List PV) → ((List PV) → R) → R) (c82 : (List Int) → PV → (List PV) → (Int → PV → (List PV) → R) → R) (c82v1 : (List Int) → (List PV) → (Int → PV → (List PV) → R) → R) (retF : Sum ((List PV)) (PV × (List PV)) → R) (NX_w3 : St → R) (p1 : PV) (p48 : PV) (n85 : Int) (l86 : List PV) : exec (f74_E k c59 c74 c74v1 c82 c82v1) f74_cw3 (purgeK (f74_E k c59 c74 c74v1 c82 c82v1) f74_cw3 (loopK NX_w3 (kont (f74_E k c59 c74 c74v1 c82 c82v1) f74_code [1, 1, 0, 1, 0] (endK (f74_E k c59 c74 c74v1 c82 c82v1) Try.f74 [2000000, 2000001] f74_un retF)))) (f74_hw3_1 p1 p48 n85 l86) = f74_w3b1 c59 c74 c74v1 c82 c82v1 (fun y0 => retF (.inl y0)) (fun y0 y1 => retF (.inr (y0, y1))) (fun n72 p73 l74 => NX_w3 (f74_hw3_0 p1 p48 n72 p73 l74)) (fun n85 l86 => NX_w3 (f74_hw3_1 p1 p48 n85 l86)) p1 p48 n85 l86 := by kernel_rfl

noncomputable def f74_w3b1N (k : Nat) (c59 : PV → (PV → R) → R) (c74 : PV → PV → (List PV) → ((List PV) → R) → (PV → (List PV) → R) → R) (c74v1 : PV → (List PV) → ((List PV) → R) → R) (c82 : (List Int) → PV → (List PV) → (Int → PV → (List PV) → R) → R) (c82v1 : (List Int) → (List PV) → (Int → PV → (List PV) → R) → R) (ret0 : (List PV) → R) (ret1 : PV → (List PV) → R) (next_w3_0 : Int → PV → (List PV) → R) (next_w3_1 : Int → (List PV) → R) (p1 : PV) (p48 : PV) (n85 : Int) (l86 : List PV) : R :=
  f74_w3b1 c59 c74 c74v1 c82 c82v1 ret0 ret1 next_w3_0 next_w3_1 p1 p48 n85 l86
theorem f74_w3b1_eq (k : Nat) (c59 : PV → (PV → R) → R) (c74 : PV → PV → (List PV) → ((List PV) → R) → (PV → (List PV) → R) → R) (c74v1 : PV → (List PV) → ((List PV) → R) → R) (c82 : (List Int) → PV → (List PV) → (Int → PV → (List PV) → R) → R) (c82v1 : (List Int) → (List PV) → (Int → PV → (List PV) → R) → R) (retF : Sum ((List PV)) (PV × (List PV)) → R) (NX_w3 : St → R) (p1 : PV) (p48 : PV) (n85 : Int) (l86 : List PV) : exec (f74_E k c59 c74 c74v1 c82 c82v1) f74_cw3 (purgeK (f74_E k c59 c74 c74v1 c82 c82v1) f74_cw3 (loopK NX_w3 (kont (f74_E k c59 c74 c74v1 c82 c82v1) f74_code [1, 1, 0, 1, 0] (endK (f74_E k c59 c74 c74v1 c82 c82v1) Try.f74 [2000000, 2000001] f74_un retF)))) (f74_hw3_1 p1 p48 n85 l86) = f74_w3b1N k c59 c74 c74v1 c82 c82v1 (fun y0 => retF (.inl y0)) (fun y0 y1 => retF (.inr (y0, y1))) (fun n72 p73 l74 => NX_w3 (f74_hw3_0 p1 p48 n72 p73 l74)) (fun n85 l86 => NX_w3 (f74_hw3_1 p1 p48 n85 l86)) p1 p48 n85 l86 :=
  (f74_w3b1_mem k c59 c74 c74v1 c82 c82v1 retF NX_w3 p1 p48 n85 l86)

noncomputable def f74_w3B (k : Nat) (c59 : PV → (PV → R) → R) (c74 : PV → PV → (List PV) → ((List PV) → R) → (PV → (List PV) → R) → R) (c74v1 : PV → (List PV) → ((List PV) → R) → R) (c82 : (List Int) → PV → (List PV) → (Int → PV → (List PV) → R) → R) (c82v1 : (List Int) → (List PV) → (Int → PV → (List PV) → R) → R) (ret0 : (List PV) → R) (ret1 : PV → (List PV) → R) (p1 : PV) (p48 : PV) (nx : Sum (Int × PV × (List PV)) (Int × (List PV)) → R) : Sum (Int × PV × (List PV)) (Int × (List PV)) → R := (Sum.elim (fun s => f74_w3b0N k c59 c74 c74v1 c82 c82v1 ret0 ret1 (fun n72 p73 l74 => nx (.inl (n72, p73, l74))) (fun n85 l86 => nx (.inr (n85, l86))) p1 p48 s.1 s.2.1 s.2.2) (fun s => f74_w3b1N k c59 c74 c74v1 c82 c82v1 ret0 ret1 (fun n72 p73 l74 => nx (.inl (n72, p73, l74))) (fun n85 l86 => nx (.inr (n85, l86))) p1 p48 s.1 s.2))
noncomputable def f74_w3N (k : Nat) (c59 : PV → (PV → R) → R) (c74 : PV → PV → (List PV) → ((List PV) → R) → (PV → (List PV) → R) → R) (c74v1 : PV → (List PV) → ((List PV) → R) → R) (c82 : (List Int) → PV → (List PV) → (Int → PV → (List PV) → R) → R) (c82v1 : (List Int) → (List PV) → (Int → PV → (List PV) → R) → R) (ret0 : (List PV) → R) (ret1 : PV → (List PV) → R) (p1 : PV) (p48 : PV) (n72 : Int) (p73 : PV) (l74 : List PV) : R := loopR (f74_w3B k c59 c74 c74v1 c82 c82v1 ret0 ret1 p1 p48) k (.inl (n72, p73, l74))
theorem f74_w3_eq (k : Nat) (c59 : PV → (PV → R) → R) (c74 : PV → PV → (List PV) → ((List PV) → R) → (PV → (List PV) → R) → R) (c74v1 : PV → (List PV) → ((List PV) → R) → R) (c82 : (List Int) → PV → (List PV) → (Int → PV → (List PV) → R) → R) (c82v1 : (List Int) → (List PV) → (Int → PV → (List PV) → R) → R) (retF : Sum ((List PV)) (PV × (List PV)) → R) (p1 : PV) (p48 : PV) (n72 : Int) (p73 : PV) (l74 : List PV) : f74_w3A k c59 c74 c74v1 c82 c82v1 retF p1 p48 n72 p73 l74 = f74_w3N k c59 c74 c74v1 c82 c82v1 (fun y0 => retF (.inl y0)) (fun y0 y1 => retF (.inr (y0, y1))) p1 p48 n72 p73 l74 :=
  Eq.mp (by kernel_rfl) (loop_sim (E := (f74_E k c59 c74 c74v1 c82 c82v1)) (c := f74_cw3) (K := (kont (f74_E k c59 c74 c74v1 c82 c82v1) f74_code [1, 1, 0, 1, 0] (endK (f74_E k c59 c74 c74v1 c82 c82v1) Try.f74 [2000000, 2000001] f74_un retF))) (S := Sum (Int × PV × (List PV)) (Int × (List PV))) (Sum.elim (fun s => f74_hw3_0 p1 p48 s.1 s.2.1 s.2.2) (fun s => f74_hw3_1 p1 p48 s.1 s.2)) (f74_w3B k c59 c74 c74v1 c82 c82v1 (fun y0 => retF (.inl y0)) (fun y0 y1 => retF (.inr (y0, y1))) p1 p48) (fun NX s => by
    cases s with
    | inl s => exact Eq.mp (by kernel_rfl) (f74_w3b0_eq k c59 c74 c74v1 c82 c82v1 retF NX p1 p48 s.1 s.2.1 s.2.2)
    | inr s =>
      exact Eq.mp (by kernel_rfl) (f74_w3b1_eq k c59 c74 c74v1 c82 c82v1 retF NX p1 p48 s.1 s.2)) k (.inl (n72, p73, l74)))

noncomputable def f74_e (c59 : PV → (PV → R) → R) (c74 : PV → PV → (List PV) → ((List PV) → R) → (PV → (List PV) → R) → R) (c74v1 : PV → (List PV) → ((List PV) → R) → R) (c82 : (List Int) → PV → (List PV) → (Int → PV → (List PV) → R) → R) (c82v1 : (List Int) → (List PV) → (Int → PV → (List PV) → R) → R) (ret0 : (List PV) → R) (ret1 : PV → (List PV) → R) (w1 : PV → Int → (List PV) → R) (w2 : PV → Int → (List PV) → R) (w3 : PV → Int → PV → (List PV) → R) (p1 : PV) (p2 : PV) (l3 : List PV) : R :=
  bif (decide ((PV.num (PV.fld p1 0)) = (4 : Int))) then
    c82 [48] p2 l3 fun n4 p5 l6 =>
    c59 p1 fun p7 =>
    w1 p7 0 l6
  else bif (decide ((PV.num (PV.fld p1 0)) = (5 : Int))) then
    c82 [49] p2 l3 fun n26 p27 l28 =>
    c59 p1 fun p29 =>
    w2 p29 0 l28
  else c59 p1 fun p48 =>
  w3 p48 0 p2 l3

theorem f74_e_mem (k : Nat) (c59 : PV → (PV → R) → R) (c74 : PV → PV → (List PV) → ((List PV) → R) → (PV → (List PV) → R) → R) (c74v1 : PV → (List PV) → ((List PV) → R) → R) (c82 : (List Int) → PV → (List PV) → (Int → PV → (List PV) → R) → R) (c82v1 : (List Int) → (List PV) → (Int → PV → (List PV) → R) → R) (retF : Sum ((List PV)) (PV × (List PV)) → R) (p1 : PV) (p2 : PV) (l3 : List PV) : exec (f74_E k c59 c74 c74v1 c82 c82v1) f74_code (endK (f74_E k c59 c74 c74v1 c82 c82v1) Try.f74 [2000000, 2000001] f74_un retF) ⟨[.ptr 2000000 [], .val 30 p1, .undef, .undef, .undef, .undef, .undef, .undef, .undef, .undef, .undef, .undef, .undef, .undef, .undef, .undef, .undef, .undef, .undef, .undef, .undef, .undef, .undef, .undef, .undef, .undef, .undef, .undef, .undef, .undef, .undef, .undef, .undef, .undef, .undef, .undef, .undef], [(2000000, .box 76 (.agg 76 [.val 74 p2, .own 43 2000001])), (2000001, .row 5 l3)]⟩ = f74_e c59 c74 c74v1 c82 c82v1 (fun y0 => retF (.inl y0)) (fun y0 y1 => retF (.inr (y0, y1))) (fun p7 n16 l17 => f74_w1A k c59 c74 c74v1 c82 c82v1 retF p1 p7 n16 l17) (fun p29 n38 l39 => f74_w2A k c59 c74 c74v1 c82 c82v1 retF p1 p29 n38 l39) (fun p48 n72 p73 l74 => f74_w3A k c59 c74 c74v1 c82 c82v1 retF p1 p48 n72 p73 l74) p1 p2 l3 := by kernel_rfl

noncomputable def f74_N (k : Nat) (c59 : PV → (PV → R) → R) (c74 : PV → PV → (List PV) → ((List PV) → R) → (PV → (List PV) → R) → R) (c74v1 : PV → (List PV) → ((List PV) → R) → R) (c82 : (List Int) → PV → (List PV) → (Int → PV → (List PV) → R) → R) (c82v1 : (List Int) → (List PV) → (Int → PV → (List PV) → R) → R) (ret0 : (List PV) → R) (ret1 : PV → (List PV) → R) (p1 : PV) (p2 : PV) (l3 : List PV) : R :=
  f74_e c59 c74 c74v1 c82 c82v1 ret0 ret1 (fun p7 n16 l17 => f74_w1N k c59 c74 c74v1 c82 c82v1 ret0 ret1 p1 p7 n16 l17) (fun p29 n38 l39 => f74_w2N k c59 c74 c74v1 c82 c82v1 ret0 ret1 p1 p29 n38 l39) (fun p48 n72 p73 l74 => f74_w3N k c59 c74 c74v1 c82 c82v1 ret0 ret1 p1 p48 n72 p73 l74) p1 p2 l3
theorem f74_eq (k : Nat) (c59 : PV → (PV → R) → R) (c74 : PV → PV → (List PV) → ((List PV) → R) → (PV → (List PV) → R) → R) (c74v1 : PV → (List PV) → ((List PV) → R) → R) (c82 : (List Int) → PV → (List PV) → (Int → PV → (List PV) → R) → R) (c82v1 : (List Int) → (List PV) → (Int → PV → (List PV) → R) → R) (retF : Sum ((List PV)) (PV × (List PV)) → R) (p1 : PV) (p2 : PV) (l3 : List PV) : exec (f74_E k c59 c74 c74v1 c82 c82v1) f74_code (endK (f74_E k c59 c74 c74v1 c82 c82v1) Try.f74 [2000000, 2000001] f74_un retF) ⟨[.ptr 2000000 [], .val 30 p1, .undef, .undef, .undef, .undef, .undef, .undef, .undef, .undef, .undef, .undef, .undef, .undef, .undef, .undef, .undef, .undef, .undef, .undef, .undef, .undef, .undef, .undef, .undef, .undef, .undef, .undef, .undef, .undef, .undef, .undef, .undef, .undef, .undef, .undef, .undef], [(2000000, .box 76 (.agg 76 [.val 74 p2, .own 43 2000001])), (2000001, .row 5 l3)]⟩ = f74_N k c59 c74 c74v1 c82 c82v1 (fun y0 => retF (.inl y0)) (fun y0 y1 => retF (.inr (y0, y1))) p1 p2 l3 :=
  (f74_e_mem k c59 c74 c74v1 c82 c82v1 retF p1 p2 l3).trans (by rw [show (fun p7 n16 l17 => f74_w1A k c59 c74 c74v1 c82 c82v1 retF p1 p7 n16 l17) = (fun p7 n16 l17 => f74_w1N k c59 c74 c74v1 c82 c82v1 (fun y0 => retF (.inl y0)) (fun y0 y1 => retF (.inr (y0, y1))) p1 p7 n16 l17) from funext fun p7 => funext fun n16 => funext fun l17 => f74_w1_eq k c59 c74 c74v1 c82 c82v1 retF p1 p7 n16 l17, show (fun p29 n38 l39 => f74_w2A k c59 c74 c74v1 c82 c82v1 retF p1 p29 n38 l39) = (fun p29 n38 l39 => f74_w2N k c59 c74 c74v1 c82 c82v1 (fun y0 => retF (.inl y0)) (fun y0 y1 => retF (.inr (y0, y1))) p1 p29 n38 l39) from funext fun p29 => funext fun n38 => funext fun l39 => f74_w2_eq k c59 c74 c74v1 c82 c82v1 retF p1 p29 n38 l39, show (fun p48 n72 p73 l74 => f74_w3A k c59 c74 c74v1 c82 c82v1 retF p1 p48 n72 p73 l74) = (fun p48 n72 p73 l74 => f74_w3N k c59 c74 c74v1 c82 c82v1 (fun y0 => retF (.inl y0)) (fun y0 y1 => retF (.inr (y0, y1))) p1 p48 n72 p73 l74) from funext fun p48 => funext fun n72 => funext fun p73 => funext fun l74 => f74_w3_eq k c59 c74 c74v1 c82 c82v1 retF p1 p48 n72 p73 l74]; rfl)

noncomputable def G74 : Nat → PV → PV → (List PV) → ((List PV) → R) → (PV → (List PV) → R) → R
  | 0, _, _, _, _, _ => none
  | k + 1, p1, p2, l3, ret0, ret1 => f74_N k (G59 k) (G74 k) (G74v1 k) (G82 k) (G82v1 k) ret0 ret1 p1 p2 l3
theorem S74 : ∀ k, Snd Try.prog 74 f74_I f74_O (fun x ret => G74 k x.1 x.2.1 x.2.2 (fun y0 => ret (.inl y0)) (fun y0 y1 => ret (.inr (y0, y1))))
  | 0 => snd_none
  | k + 1 => snd_step (E := f74_E k (G59 k) (G74 k) (G74v1 k) (G82 k) (G82v1 k)) rfl laidOut noNums (orc_ok (S59 k).o f59_D_ok (orc_ok (S74 k).o f74_D_ok (orc_ok (S74v1 k).o f74v1_D_ok (orc_ok (S82 k).o f82_D_ok (orc_ok (S82v1 k).o f82v1_D_ok orc0_ok))))) (f := 74) (fn := Try.f74) (code := f74_code) Try.func74 (by kernel_rfl) (drawsOk_of laidOut (orc_ok (S59 k).o f59_D_ok (orc_ok (S74 k).o f74_D_ok (orc_ok (S74v1 k).o f74v1_D_ok (orc_ok (S82 k).o f82_D_ok (orc_ok (S82v1 k).o f82v1_D_ok orc0_ok))))) mixed (by kernel_rfl)) f74_un f74_un_ok [2000000, 2000001] (fun _ => rfl)
      (fun x ret => f74_eq k (G59 k) (G74 k) (G74v1 k) (G82 k) (G82v1 k) ret x.1 x.2.1 x.2.2)

/- (*strings.Builder).String -/
noncomputable def f61_I : (List PV) → List SV × Obs := fun x => ([.ptr 2000000 []], [(2000000, .box 76 (.agg 76 [.ptr 2000000 [], .own 43 2000001])), (2000001, .row 5 x)])
noncomputable def f61_D : List SV → Obs → Option ((List PV))
  | [.ptr 2000000 []], [(2000000, .box 76 (.agg 76 [.ptr 2000000 [], .own 43 2000001])), (2000001, .row 5 l1)] => some l1
  | _, _ => none
theorem f61_D_ok (args : List SV) (B : Obs) (x : (List PV)) (h : f61_D args B = some x) : f61_I x = (args, B) := by
  unfold f61_D at h
  split at h
  · injection h with h; subst h; rfl
  · cases h
noncomputable def f61_O : (List Int) → Out := (fun y => ([.str y], [(2000000, .box 76 (.agg 76 [.ptr 2000000 [], .dead]))]))
noncomputable def f61_un : Out → Option ((List Int))
  | ([.str y0], [(2000000, .box 76 (.agg 76 [.ptr 2000000 [], .dead]))]) => some y0
  | _ => none
theorem f61_un_ok (o : Out) (y : (List Int)) (h : f61_un o = some y) : o = f61_O y := by
  unfold f61_un at h
  split at h
  · injection h with h; subst h; rfl
  · cases h

noncomputable def G61 : Nat → (List PV) → ((List Int) → R) → R
  | _, l, ret0 => ret0 (l.map PV.num)
theorem S61 : ∀ k, SndO Try.prog 61 f61_I f61_O (fun x ret => G61 k x (fun y0 => ret y0)) := fun k => Bld.strUsed

/- (*strings.Builder).String -/
noncomputable def f61v1_I : PV × (List PV) → List SV × Obs := fun x => ([.ptr 2000000 []], [(2000000, .box 76 (.agg 76 [.val 74 x.1, .own 43 2000001])), (2000001, .row 5 x.2)])
noncomputable def f61v1_D : List SV → Obs → Option (PV × (List PV))
  | [.ptr 2000000 []], [(2000000, .box 76 (.agg 76 [.val 74 p1, .own 43 2000001])), (2000001, .row 5 l2)] => some (p1, l2)
  | _, _ => none
theorem f61v1_D_ok (args : List SV) (B : Obs) (x : PV × (List PV)) (h : f61v1_D args B = some x) : f61v1_I x = (args, B) := by
  unfold f61v1_D at h
  split at h
  · injection h with h; subst h; rfl
  · cases h
noncomputable def f61v1_O : (List Int) × PV → Out := (fun y => ([.str y.1], [(2000000, .box 76 (.agg 76 [.val 74 y.2, .dead]))]))
noncomputable def f61v1_un : Out → Option ((List Int) × PV)
  | ([.str y0], [(2000000, .box 76 (.agg 76 [.val 74 y1, .dead]))]) => some (y0, y1)
  | _ => none
theorem f61v1_un_ok (o : Out) (y : (List Int) × PV) (h : f61v1_un o = some y) : o = f61v1_O y := by
  unfold f61v1_un at h
  split at h
  · injection h with h; subst h; rfl
  · cases h

noncomputable def G61v1 : Nat → PV → (List PV) → ((List Int) → PV → R) → R
  | _, p, l, ret0 => ret0 (l.map PV.num) p
theorem S61v1 : ∀ k, SndO Try.prog 61 f61v1_I f61v1_O (fun x ret => G61v1 k x.1 x.2 (fun y0 y1 => ret (y0, y1))) := fun k => Bld.strFresh

/- catchpole/bits.Put -/
noncomputable def f46_I : PV → List SV × Obs := fun x => ([.val 30 x], [])
noncomputable def f46_D : List SV → Obs → Option (PV)
  | [.val 30 p1], [] => some p1
  | _, _ => none
theorem f46_D_ok (args : List SV) (B : Obs) (x : PV) (h : f46_D args B = some x) : f46_I x = (args, B) := by
  unfold f46_D at h
  split at h
  · injection h with h; subst h; rfl
  · cases h
noncomputable def f46_O : (List Int) → Out := (fun y => ([.str y], []))
noncomputable def f46_un : Out → Option ((List Int))
  | ([.str y0], []) => some y0
  | _ => none
theorem f46_un_ok (o : Out) (y : (List Int)) (h : f46_un o = some y) : o = f46_O y := by
  unfold f46_un at h
  split at h
  · injection h with h; subst h; rfl
  · cases h
noncomputable def f46_msk : Nat → Option (List Nat) := fun key =>  none
noncomputable def f46_C (c61 : (List PV) → ((List Int) → R) → R) (c61v1 : PV → (List PV) → ((List Int) → PV → R) → R) (c74 : PV → PV → (List PV) → ((List PV) → R) → (PV → (List PV) → R) → R) : Oracle := orc 61 f61_D f61_O (fun x ret => c61 x (fun y0 => ret y0)) <| orc 61 f61v1_D f61v1_O (fun x ret => c61v1 x.1 x.2 (fun y0 y1 => ret (y0, y1))) <| orc 74 f74_D f74_O (fun x ret => c74 x.1 x.2.1 x.2.2 (fun y0 => ret (.inl y0)) (fun y0 y1 => ret (.inr (y0, y1)))) <| orc0
noncomputable def f46_E (k : Nat) (c61 : (List PV) → ((List Int) → R) → R) (c61v1 : PV → (List PV) → ((List Int) → PV → R) → R) (c74 : PV → PV → (List PV) → ((List PV) → R) → (PV → (List PV) → R) → R) : Env := { P := Try.prog, nilOwn := fun d => false, fldOwn := fun d i => (d == 3 && i == 1), ownPar := ownPars, ownRet := false, mask := f46_msk, fuel := k, C := f46_C c61 c61v1 c74 }
noncomputable def f46_code : Code := Try.f46.body.getD .skip
noncomputable def f46_e (c61 : (List PV) → ((List Int) → R) → R) (c61v1 : PV → (List PV) → ((List Int) → PV → R) → R) (c74 : PV → PV → (List PV) → ((List PV) → R) → (PV → (List PV) → R) → R) (ret0 : (List Int) → R) (p1 : PV) : R :=
  c74 p1 PV.nil [] (fun l2 =>
  c61 l2 fun s5 =>
  ret0 s5) (fun p3 l4 =>
  c61v1 p3 l4 fun s6 p7 =>
  ret0 s6)

theorem f46_e_mem (k : Nat) (c61 : (List PV) → ((List Int) → R) → R) (c61v1 : PV → (List PV) → ((List Int) → PV → R) → R) (c74 : PV → PV → (List PV) → ((List PV) → R) → (PV → (List PV) → R) → R) (retF : (List Int) → R) (p1 : PV) : exec (f46_E k c61 c61v1 c74) f46_code (endK (f46_E k c61 c61v1 c74) Try.f46 [] f46_un retF) ⟨[.val 30 p1, .undef, .undef, .undef, .undef, .undef, .undef], []⟩ = f46_e c61 c61v1 c74 (fun y0 => retF y0) p1 := by kernel_rfl

noncomputable def f46_N (k : Nat) (c61 : (List PV) → ((List Int) → R) → R) (c61v1 : PV → (List PV) → ((List Int) → PV → R) → R) (c74 : PV → PV → (List PV) → ((List PV) → R) → (PV → (List PV) → R) → R) (ret0 : (List Int) → R) (p1 : PV) : R :=
  f46_e c61 c61v1 c74 ret0 p1
theorem f46_eq (k : Nat) (c61 : (List PV) → ((List Int) → R) → R) (c61v1 : PV → (List PV) → ((List Int) → PV → R) → R) (c74 : PV → PV → (List PV) → ((List PV) → R) → (PV → (List PV) → R) → R) (retF : (List Int) → R) (p1 : PV) : exec (f46_E k c61 c61v1 c74) f46_code (endK (f46_E k c61 c61v1 c74) Try.f46 [] f46_un retF) ⟨[.val 30 p1, .undef, .undef, .undef, .undef, .undef, .undef], []⟩ = f46_N k c61 c61v1 c74 (fun y0 => retF y0) p1 :=
  (f46_e_mem k c61 c61v1 c74 retF p1)

noncomputable def G46 : Nat → PV → ((List Int) → R) → R
  | 0, _, _ => none
  | k + 1, p1, ret0 => f46_N k (G61 k) (G61v1 k) (G74 k) ret0 p1
theorem S46 : ∀ k, Snd Try.prog 46 f46_I f46_O (fun x ret => G46 k x (fun y0 => ret y0))
  | 0 => snd_none
  | k + 1 => snd_step (E := f46_E k (G61 k) (G61v1 k) (G74 k)) rfl laidOut noNums (orc_ok (S61 k).o f61_D_ok (orc_ok (S61v1 k).o f61v1_D_ok (orc_ok (S74 k).o f74_D_ok orc0_ok))) (f := 46) (fn := Try.f46) (code := f46_code) Try.func46 (by kernel_rfl) (drawsOk_of laidOut (orc_ok (S61 k).o f61_D_ok (orc_ok (S61v1 k).o f61v1_D_ok (orc_ok (S74 k).o f74_D_ok orc0_ok))) mixed (by kernel_rfl)) f46_un f46_un_ok [] (fun _ => rfl)
      (fun x ret => f46_eq k (G61 k) (G61v1 k) (G74 k) ret x)

/- slices.EqualFunc[[]catchpole/value.Value,[]catchpole/value.Value,catchpole/value.Value,catchpole/value.Value] -/
noncomputable def f62_I : PV × PV → List SV × Obs := fun x => ([.val 28 x.1, .val 28 x.2, .fn 26 []], [])
noncomputable def f62_D : List SV → Obs → Option (PV × PV)
  | [.val 28 p1, .val 28 p2, .fn 26 []], [] => some (p1, p2)
  | _, _ => none
theorem f62_D_ok (args : List SV) (B : Obs) (x : PV × PV) (h : f62_D args B = some x) : f62_I x = (args, B) := by
  unfold f62_D at h
  split at h
  · injection h with h; subst h; rfl
  · cases h
noncomputable def f62_O : Bool → Out := (fun y => ([.bool y], []))
noncomputable def f62_un : Out → Option (Bool)
  | ([.bool y0], []) => some y0
  | _ => none
theorem f62_un_ok (o : Out) (y : Bool) (h : f62_un o = some y) : o = f62_O y := by
  unfold f62_un at h
  split at h
  · injection h with h; subst h; rfl
  · cases h
/- catchpole/value.Same -/
noncomputable def f26_I : PV × PV → List SV × Obs := fun x => ([.val 30 x.1, .val 30 x.2], [])
noncomputable def f26_D : List SV → Obs → Option (PV × PV)
  | [.val 30 p1, .val 30 p2], [] => some (p1, p2)
  | _, _ => none
theorem f26_D_ok (args : List SV) (B : Obs) (x : PV × PV) (h : f26_D args B = some x) : f26_I x = (args, B) := by
  unfold f26_D at h
  split at h
  · injection h with h; subst h; rfl
  · cases h
noncomputable def f26_O : Bool → Out := (fun y => ([.bool y], []))
noncomputable def f26_un : Out → Option (Bool)
  | ([.bool y0], []) => some y0
  | _ => none
theorem f26_un_ok (o : Out) (y : Bool) (h : f26_un o = some y) : o = f26_O y := by
  unfold f26_un at h
  split at h
  · injection h with h; subst h; rfl
  · cases h
noncomputable def f62_msk : Nat → Option (List Nat) := fun key => bif key == 12 then some [1, 2, 15, 16, 17] else none
noncomputable def f62_C (c26 : PV → PV → (Bool → R) → R) : Oracle := orc 26 f26_D f26_O (fun x ret => c26 x.1 x.2 (fun y0 => ret y0)) <| orc0
noncomputable def f62_E (k : Nat) (c26 : PV → PV → (Bool → R) → R) : Env := { P := Try.prog, nilOwn := fun d => false, fldOwn := fun d i => false, ownPar := ownPars, ownRet := false, mask := f62_msk, fuel := k, C := f62_C c26 }
noncomputable def f62_code : Code := Try.f62.body.getD .skip
noncomputable def f62_cw1 : Code := subC f62_code [1, 1, 0, 1, 0, 0]
noncomputable def f62_hw1_0 (p1 : PV) (p2 : PV) (n4 : Int) : St := ⟨[.dead, .val 28 p2, .fn 26 [], .dead, .dead, .dead, .dead, .dead, .dead, .dead, .dead, .dead, .dead, .dead, .dead, .val 28 p1, .int .i64 (List.length (PV.els p1) : Int), .int .i64 n4, .dead, .dead, .dead, .dead, .dead, .dead, .dead, .dead, .dead, .dead, .dead, .dead, .dead, .dead], []⟩
noncomputable def f62_w1A (k : Nat) (c26 : PV → PV → (Bool → R) → R) (retF : Bool → R) (p1 : PV) (p2 : PV) (n4 : Int) : R := loopM (f62_E k c26) f62_cw1 (kont (f62_E k c26) f62_code [1, 1, 0, 1, 0] (endK (f62_E k c26) Try.f62 [] f62_un retF)) k (f62_hw1_0 p1 p2 n4)
noncomputable def f62_w1b0 (c26 : PV → PV → (Bool → R) → R) (ret0 : Bool → R) (next_w1_0 : Int → R) (p1 : PV) (p2 : PV) (n4 : Int) : R :=
  bif (decide (n4 < (List.length (PV.els p1) : Int))) then
    bif (true && decide ((0 : Int) ≤ n4) && decide (n4 < (List.length (PV.els p1) : Int))) then
      bif (true && decide ((0 : Int) ≤ n4) && decide (n4 < (List.length (PV.els p2) : Int))) then
        c26 (List.getD (PV.els p1) (n4).toNat PV.nil) (List.getD (PV.els p2) (n4).toNat PV.nil) fun b5 =>
        bif (!b5) then
          ret0 false
        else next_w1_0 (IntKind.wrap .i64 (n4 + (1 : Int)))
      else none
    else none
  else ret0 true

theorem f62_w1b0_mem (k : Nat) (c26 : PV → PV → (Bool → R) → R) (retF : Bool → R) (NX_w1 : St → R) (p1 : PV) (p2 : PV) (n4 : Int) : exec (f62_E k c26) f62_cw1 (purgeK (f62_E k c26) f62_cw1 (loopK NX_w1 (kont (f62_E k c26) f62_code [1, 1, 0, 1, 0] (endK (f62_E k c26) Try.f62 [] f62_un retF)))) (f62_hw1_0 p1 p2 n4) = f62_w1b0 c26 (fun y0 => retF y0) (fun n4 => NX_w1 (f62_hw1_0 p1 p2 n4)) p1 p2 n4 := by kernel_rfl

noncomputable def f62_w1b0N (k : Nat) (c26 : PV → PV → (Bool → R) → R) (ret0 : Bool → R) (next_w1_0 : Int → R) (p1 : PV) (p2 : PV) (n4 : Int) : R :=
  f62_w1b0 c26 ret0 next_w1_0 p1 p2 n4
theorem f62_w1b0_eq (k : Nat) (c26 : PV → PV → (Bool → R) → R) (retF : Bool → R) (NX_w1 : St → R) (p1 : PV) (p2 : PV) (n4 : Int) : exec (f62_E k c26) f62_cw1 (purgeK (f62_E k c26) f62_cw1 (loopK NX_w1 (kont (f62_E k c26) f62_code [1, 1, 0, 1, 0] (endK (f62_E k c26) Try.f62 [] f62_un retF)))) (f62_hw1_0 p1 p2 n4) = f62_w1b0N k c26 (fun y0 => retF y0) (fun n4 => NX_w1 (f62_hw1_0 p1 p2 n4)) p1 p2 n4 :=
  (f62_w1b0_mem k c26 retF NX_w1 p1 p2 n4)

noncomputable def f62_w1B (k : Nat) (c26 : PV → PV → (Bool → R) → R) (ret0 : Bool → R) (p1 : PV) (p2 : PV) (nx : Int → R) : Int → R := (fun s => f62_w1b0N k c26 ret0 (fun n4 => nx n4) p1 p2 s)
noncomputable def f62_w1N (k : Nat) (c26 : PV → PV → (Bool → R) → R) (ret0 : Bool → R) (p1 : PV) (p2 : PV) (n4 : Int) : R := loopR (f62_w1B k c26 ret0 p1 p2) k n4
theorem f62_w1_eq (k : Nat) (c26 : PV → PV → (Bool → R) → R) (retF : Bool → R) (p1 : PV) (p2 : PV) (n4 : Int) : f62_w1A k c26 retF p1 p2 n4 = f62_w1N k c26 (fun y0 => retF y0) p1 p2 n4 :=
  Eq.mp (by kernel_rfl) (loop_sim (E := (f62_E k c26)) (c := f62_cw1) (K := (kont (f62_E k c26) f62_code [1, 1, 0, 1, 0] (endK (f62_E k c26) Try.f62 [] f62_un retF))) (S := Int) (fun s => f62_hw1_0 p1 p2 s) (f62_w1B k c26 (fun y0 => retF y0) p1 p2) (fun NX s => by
    exact Eq.mp (by kernel_rfl) (f62_w1b0_eq k c26 retF NX p1 p2 s)) k n4)

noncomputable def f62_e (c26 : PV → PV → (Bool → R) → R) (ret0 : Bool → R) (w1 : Int → R) (p1 : PV) (p2 : PV) : R :=
  bif (!(decide ((List.length (PV.els p1) : Int) = (List.length (PV.els p2) : Int)))) then
    ret0 false
  else w1 0

theorem f62_e_mem (k : Nat) (c26 : PV → PV → (Bool → R) → R) (retF : Bool → R) (p1 : PV) (p2 : PV) : exec (f62_E k c26) f62_code (endK (f62_E k c26) Try.f62 [] f62_un retF) ⟨[.val 28 p1, .val 28 p2, .fn 26 [], .undef, .undef, .undef, .undef, .undef, .undef, .undef, .undef, .undef, .undef, .undef, .undef, .undef, .undef, .undef, .undef, .undef, .undef, .undef, .undef, .undef, .undef, .undef, .undef, .undef, .undef, .undef, .undef, .undef], []⟩ = f62_e c26 (fun y0 => retF y0) (fun n4 => f62_w1A k c26 retF p1 p2 n4) p1 p2 := by kernel_rfl

noncomputable def f62_N (k : Nat) (c26 : PV → PV → (Bool → R) → R) (ret0 : Bool → R) (p1 : PV) (p2 : PV) : R :=
  f62_e c26 ret0 (fun n4 => f62_w1N k c26 ret0 p1 p2 n4) p1 p2
theorem f62_eq (k : Nat) (c26 : PV → PV → (Bool → R) → R) (retF : Bool → R) (p1 : PV) (p2 : PV) : exec (f62_E k c26) f62_code (endK (f62_E k c26) Try.f62 [] f62_un retF) ⟨[.val 28 p1, .val 28 p2, .fn 26 [], .undef, .undef, .undef, .undef, .undef, .undef, .undef, .undef, .undef, .undef, .undef, .undef, .undef, .undef, .undef, .undef, .undef, .undef, .undef, .undef, .undef, .undef, .undef, .undef, .undef, .undef, .undef, .undef, .undef], []⟩ = f62_N k c26 (fun y0 => retF y0) p1 p2 :=
  (f62_e_mem k c26 retF p1 p2).trans (by rw [show (fun n4 => f62_w1A k c26 retF p1 p2 n4) = (fun n4 => f62_w1N k c26 (fun y0 => retF y0) p1 p2 n4) from funext fun n4 => f62_w1_eq k c26 retF p1 p2 n4]; rfl)

noncomputable def f26_msk : Nat → Option (List Nat) := fun key =>  none
noncomputable def f26_C (c62 : PV → PV → (Bool → R) → R) : Oracle := orc 62 f62_D f62_O (fun x ret => c62 x.1 x.2 (fun y0 => ret y0)) <| orc0
noncomputable def f26_E (k : Nat) (c62 : PV → PV → (Bool → R) → R) : Env := { P := Try.prog, nilOwn := fun d => false, fldOwn := fun d i => false, ownPar := ownPars, ownRet := false, mask := f26_msk, fuel := k, C := f26_C c62 }
noncomputable def f26_code : Code := Try.f26.body.getD .skip
noncomputable def f26_e (c62 : PV → PV → (Bool → R) → R) (ret0 : Bool → R) (p1 : PV) (p2 : PV) : R :=
  bif ((decide ((PV.num (PV.fld p1 0)) = (PV.num (PV.fld p2 0)))) == true) then
    bif ((decide ((PV.num (PV.fld p1 1)) = (PV.num (PV.fld p2 1)))) == true) then
      c62 (PV.fld p1 2) (PV.fld p2 2) fun b3 =>
      ret0 b3
    else ret0 false
  else ret0 false

theorem f26_e_mem (k : Nat) (c62 : PV → PV → (Bool → R) → R) (retF : Bool → R) (p1 : PV) (p2 : PV) : exec (f26_E k c62) f26_code (endK (f26_E k c62) Try.f26 [] f26_un retF) ⟨[.val 30 p1, .val 30 p2, .undef, .undef, .undef, .undef, .undef, .undef, .undef, .undef, .undef, .undef, .undef, .undef, .undef, .undef, .undef, .undef, .undef, .undef, .undef, .undef, .undef, .undef], []⟩ = f26_e c62 (fun y0 => retF y0) p1 p2 := by kernel_rfl

noncomputable def f26_N (k : Nat) (c62 : PV → PV → (Bool → R) → R) (ret0 : Bool → R) (p1 : PV) (p2 : PV) : R :=
  f26_e c62 ret0 p1 p2
theorem f26_eq (k : Nat) (c62 : PV → PV → (Bool → R) → R) (retF : Bool → R) (p1 : PV) (p2 : PV) : exec (f26_E k c62) f26_code (endK (f26_E k c62) Try.f26 [] f26_un retF) ⟨[.val 30 p1, .val 30 p2, .undef, .undef, .undef, .undef, .undef, .undef, .undef, .undef, .undef, .undef, .undef, .undef, .undef, .undef, .undef, .undef, .undef, .undef, .undef, .undef, .undef, .undef], []⟩ = f26_N k c62 (fun y0 => retF y0) p1 p2 :=
  (f26_e_mem k c62 retF p1 p2)

mutual
noncomputable def G62 : Nat → PV → PV → (Bool → R) → R
  | 0, _, _, _ => none
  | k + 1, p1, p2, ret0 => f62_N k (G26 k) ret0 p1 p2
noncomputable def G26 : Nat → PV → PV → (Bool → R) → R
  | 0, _, _, _ => none
  | k + 1, p1, p2, ret0 => f26_N k (G62 k) ret0 p1 p2
end
mutual
theorem S62 : ∀ k, Snd Try.prog 62 f62_I f62_O (fun x ret => G62 k x.1 x.2 (fun y0 => ret y0))
  | 0 => snd_none
  | k + 1 => snd_step (E := f62_E k (G26 k)) rfl laidOut noNums (orc_ok (S26 k).o f26_D_ok orc0_ok) (f := 62) (fn := Try.f62) (code := f62_code) Try.func62 (by kernel_rfl) (drawsOk_of laidOut (orc_ok (S26 k).o f26_D_ok orc0_ok) mixed (by kernel_rfl)) f62_un f62_un_ok [] (fun _ => rfl)
      (fun x ret => f62_eq k (G26 k) ret x.1 x.2)
theorem S26 : ∀ k, Snd Try.prog 26 f26_I f26_O (fun x ret => G26 k x.1 x.2 (fun y0 => ret y0))
  | 0 => snd_none
  | k + 1 => snd_step (E := f26_E k (G62 k)) rfl laidOut noNums (orc_ok (S62 k).o f62_D_ok orc0_ok) (f := 26) (fn := Try.f26) (code := f26_code) Try.func26 (by kernel_rfl) (drawsOk_of laidOut (orc_ok (S62 k).o f62_D_ok orc0_ok) mixed (by kernel_rfl)) f26_un f26_un_ok [] (fun _ => rfl)
      (fun x ret => f26_eq k (G62 k) ret x.1 x.2)
end

/- catchpole/catchpolelaw11.awake -/
noncomputable def f40_I : Unit → List SV × Obs := fun x => ([], [])
noncomputable def f40_D : List SV → Obs → Option (Unit)
  | [], [] => some ()
  | _, _ => none
theorem f40_D_ok (args : List SV) (B : Obs) (x : Unit) (h : f40_D args B = some x) : f40_I x = (args, B) := by
  unfold f40_D at h
  split at h
  · injection h with h; subst h; rfl
  · cases h
noncomputable def f40_O : Bool → Out := (fun y => ([.bool y], []))
noncomputable def f40_un : Out → Option (Bool)
  | ([.bool y0], []) => some y0
  | _ => none
theorem f40_un_ok (o : Out) (y : Bool) (h : f40_un o = some y) : o = f40_O y := by
  unfold f40_un at h
  split at h
  · injection h with h; subst h; rfl
  · cases h
noncomputable def f40_msk : Nat → Option (List Nat) := fun key =>  none
noncomputable def f40_C (c26 : PV → PV → (Bool → R) → R) (c43 : PV → (List Int) → PV → (PV → Int → R) → R) (c46 : PV → ((List Int) → R) → R) (c50 : PV → PV → (PV → R) → R) (c51 : PV → (PV → R) → R) : Oracle := orc 26 f26_D f26_O (fun x ret => c26 x.1 x.2 (fun y0 => ret y0)) <| orc 43 f43_D f43_O (fun x ret => c43 x.1 x.2.1 x.2.2 (fun y0 y1 => ret (y0, y1))) <| orc 46 f46_D f46_O (fun x ret => c46 x (fun y0 => ret y0)) <| orc 50 f50_D f50_O (fun x ret => c50 x.1 x.2 (fun y0 => ret y0)) <| orc 51 f51_D f51_O (fun x ret => c51 x (fun y0 => ret y0)) <| orc0
noncomputable def f40_E (k : Nat) (c26 : PV → PV → (Bool → R) → R) (c43 : PV → (List Int) → PV → (PV → Int → R) → R) (c46 : PV → ((List Int) → R) → R) (c50 : PV → PV → (PV → R) → R) (c51 : PV → (PV → R) → R) : Env := { P := Try.prog, nilOwn := fun d => d == 13, fldOwn := fun d i => false, ownPar := ownPars, ownRet := false, mask := f40_msk, fuel := k, C := f40_C c26 c43 c46 c50 c51 }
noncomputable def f40_code : Code := Try.f40.body.getD .skip
noncomputable def f40_e (c26 : PV → PV → (Bool → R) → R) (c43 : PV → (List Int) → PV → (PV → Int → R) → R) (c46 : PV → ((List Int) → R) → R) (c50 : PV → PV → (PV → R) → R) (c51 : PV → (PV → R) → R) (ret0 : Bool → R) : R :=
  c51 (PV.list [(PV.int 97)]) fun p1 =>
  c51 (PV.list [(PV.int 98)]) fun p2 =>
  c50 p1 p2 fun p3 =>
  c43 p3 [48] (PV.list [(PV.int 97)]) fun p4 n5 =>
  c46 (PV.agg [(PV.int 4), (PV.int 0), (PV.list [(PV.agg [(PV.int 2), (PV.int 97), (PV.list [])])])]) fun s6 =>
  bif ((decide ((s6 : List Int) = [48])) == true) then
    bif ((decide (n5 = (0 : Int))) == true) then
      c26 p4 (PV.agg [(PV.int 4), (PV.int 0), (PV.list [(PV.agg [(PV.int 2), (PV.int 97), (PV.list [])])])]) fun b7 =>
      ret0 b7
    else ret0 false
  else ret0 false

theorem f40_e_mem (k : Nat) (c26 : PV → PV → (Bool → R) → R) (c43 : PV → (List Int) → PV → (PV → Int → R) → R) (c46 : PV → ((List Int) → R) → R) (c50 : PV → PV → (PV → R) → R) (c51 : PV → (PV → R) → R) (retF : Bool → R) : exec (f40_E k c26 c43 c46 c50 c51) f40_code (endK (f40_E k c26 c43 c46 c50 c51) Try.f40 [] f40_un retF) ⟨[.undef, .undef, .undef, .undef, .undef, .undef, .undef, .undef, .undef, .undef, .undef, .undef, .undef, .undef, .undef, .undef, .undef, .undef, .undef, .undef, .undef, .undef, .undef, .undef, .undef, .undef, .undef, .undef, .undef, .undef], []⟩ = f40_e c26 c43 c46 c50 c51 (fun y0 => retF y0) := by kernel_rfl

noncomputable def f40_N (k : Nat) (c26 : PV → PV → (Bool → R) → R) (c43 : PV → (List Int) → PV → (PV → Int → R) → R) (c46 : PV → ((List Int) → R) → R) (c50 : PV → PV → (PV → R) → R) (c51 : PV → (PV → R) → R) (ret0 : Bool → R) : R :=
  f40_e c26 c43 c46 c50 c51 ret0
theorem f40_eq (k : Nat) (c26 : PV → PV → (Bool → R) → R) (c43 : PV → (List Int) → PV → (PV → Int → R) → R) (c46 : PV → ((List Int) → R) → R) (c50 : PV → PV → (PV → R) → R) (c51 : PV → (PV → R) → R) (retF : Bool → R) : exec (f40_E k c26 c43 c46 c50 c51) f40_code (endK (f40_E k c26 c43 c46 c50 c51) Try.f40 [] f40_un retF) ⟨[.undef, .undef, .undef, .undef, .undef, .undef, .undef, .undef, .undef, .undef, .undef, .undef, .undef, .undef, .undef, .undef, .undef, .undef, .undef, .undef, .undef, .undef, .undef, .undef, .undef, .undef, .undef, .undef, .undef, .undef], []⟩ = f40_N k c26 c43 c46 c50 c51 (fun y0 => retF y0) :=
  (f40_e_mem k c26 c43 c46 c50 c51 retF)

noncomputable def G40 : Nat → (Bool → R) → R
  | 0, _ => none
  | k + 1, ret0 => f40_N k (G26 k) (G43 k) (G46 k) (G50 k) (G51 k) ret0 
theorem S40 : ∀ k, Snd Try.prog 40 f40_I f40_O (fun x ret => G40 k (fun y0 => ret y0))
  | 0 => snd_none
  | k + 1 => snd_step (E := f40_E k (G26 k) (G43 k) (G46 k) (G50 k) (G51 k)) rfl laidOut noNums (orc_ok (S26 k).o f26_D_ok (orc_ok (S43 k).o f43_D_ok (orc_ok (S46 k).o f46_D_ok (orc_ok (S50 k).o f50_D_ok (orc_ok (S51 k).o f51_D_ok orc0_ok))))) (f := 40) (fn := Try.f40) (code := f40_code) Try.func40 (by kernel_rfl) (drawsOk_of laidOut (orc_ok (S26 k).o f26_D_ok (orc_ok (S43 k).o f43_D_ok (orc_ok (S46 k).o f46_D_ok (orc_ok (S50 k).o f50_D_ok (orc_ok (S51 k).o f51_D_ok orc0_ok))))) mixed (by kernel_rfl)) f40_un f40_un_ok [] (fun _ => rfl)
      (fun x ret => f40_eq k (G26 k) (G43 k) (G46 k) (G50 k) (G51 k) ret)

/- catchpole/catchpolelaw11.eps -/
noncomputable def f53_I : Unit → List SV × Obs := fun x => ([], [])
noncomputable def f53_D : List SV → Obs → Option (Unit)
  | [], [] => some ()
  | _, _ => none
theorem f53_D_ok (args : List SV) (B : Obs) (x : Unit) (h : f53_D args B = some x) : f53_I x = (args, B) := by
  unfold f53_D at h
  split at h
  · injection h with h; subst h; rfl
  · cases h
noncomputable def f53_O : PV → Out := (fun y => ([.val 27 y], []))
noncomputable def f53_un : Out → Option (PV)
  | ([.val 27 y0], []) => some y0
  | _ => none
theorem f53_un_ok (o : Out) (y : PV) (h : f53_un o = some y) : o = f53_O y := by
  unfold f53_un at h
  split at h
  · injection h with h; subst h; rfl
  · cases h
noncomputable def f53_msk : Nat → Option (List Nat) := fun key =>  none
noncomputable def f53_C : Oracle := orc0
noncomputable def f53_E (k : Nat) : Env := { P := Try.prog, nilOwn := fun d => false, fldOwn := fun d i => false, ownPar := ownPars, ownRet := false, mask := f53_msk, fuel := k, C := f53_C }
noncomputable def f53_code : Code := Try.f53.body.getD .skip
noncomputable def f53_e (ret0 : PV → R) : R :=
  ret0 (PV.agg [(PV.int 1), (PV.agg [(PV.int 0), (PV.int 0), (PV.int 0), (PV.int 0)]), (PV.int 0), (PV.list [])])

theorem f53_e_mem (k : Nat) (retF : PV → R) : exec (f53_E k) f53_code (endK (f53_E k) Try.f53 [] f53_un retF) ⟨[.undef, .undef], []⟩ = f53_e (fun y0 => retF y0) := by kernel_rfl

noncomputable def f53_N (k : Nat) (ret0 : PV → R) : R :=
  f53_e ret0
theorem f53_eq (k : Nat) (retF : PV → R) : exec (f53_E k) f53_code (endK (f53_E k) Try.f53 [] f53_un retF) ⟨[.undef, .undef], []⟩ = f53_N k (fun y0 => retF y0) :=
  (f53_e_mem k retF)

noncomputable def G53 : Nat → (PV → R) → R
  | 0, _ => none
  | k + 1, ret0 => f53_N k  ret0 
theorem S53 : ∀ k, Snd Try.prog 53 f53_I f53_O (fun x ret => G53 k (fun y0 => ret y0))
  | 0 => snd_none
  | k + 1 => snd_step (E := f53_E k ) rfl laidOut noNums orc0_ok (f := 53) (fn := Try.f53) (code := f53_code) Try.func53 (by kernel_rfl) (drawsOk_of laidOut orc0_ok mixed (by kernel_rfl)) f53_un f53_un_ok [] (fun _ => rfl)
      (fun x ret => f53_eq k  ret)

/- catchpole/catchpolelaw11.seq -/
noncomputable def f52_I : PV × PV → List SV × Obs := fun x => ([.val 27 x.1, .val 27 x.2], [])
noncomputable def f52_D : List SV → Obs → Option (PV × PV)
  | [.val 27 p1, .val 27 p2], [] => some (p1, p2)
  | _, _ => none
theorem f52_D_ok (args : List SV) (B : Obs) (x : PV × PV) (h : f52_D args B = some x) : f52_I x = (args, B) := by
  unfold f52_D at h
  split at h
  · injection h with h; subst h; rfl
  · cases h
noncomputable def f52_O : PV → Out := (fun y => ([.val 27 y], []))
noncomputable def f52_un : Out → Option (PV)
  | ([.val 27 y0], []) => some y0
  | _ => none
theorem f52_un_ok (o : Out) (y : PV) (h : f52_un o = some y) : o = f52_O y := by
  unfold f52_un at h
  split at h
  · injection h with h; subst h; rfl
  · cases h
noncomputable def f52_msk : Nat → Option (List Nat) := fun key =>  none
noncomputable def f52_C : Oracle := orc0
noncomputable def f52_E (k : Nat) : Env := { P := Try.prog, nilOwn := fun d => false, fldOwn := fun d i => false, ownPar := ownPars, ownRet := false, mask := f52_msk, fuel := k, C := f52_C }
noncomputable def f52_code : Code := Try.f52.body.getD .skip
noncomputable def f52_e (ret0 : PV → R) (p1 : PV) (p2 : PV) : R :=
  ret0 (PV.agg [(PV.int 3), (PV.agg [(PV.int 0), (PV.int 0), (PV.int 0), (PV.int 0)]), (PV.int 0), (PV.list [p1, p2])])

theorem f52_e_mem (k : Nat) (retF : PV → R) (p1 : PV) (p2 : PV) : exec (f52_E k) f52_code (endK (f52_E k) Try.f52 [] f52_un retF) ⟨[.val 27 p1, .val 27 p2, .undef, .undef, .undef, .undef, .undef, .undef, .undef], []⟩ = f52_e (fun y0 => retF y0) p1 p2 := by kernel_rfl

noncomputable def f52_N (k : Nat) (ret0 : PV → R) (p1 : PV) (p2 : PV) : R :=
  f52_e ret0 p1 p2
theorem f52_eq (k : Nat) (retF : PV → R) (p1 : PV) (p2 : PV) : exec (f52_E k) f52_code (endK (f52_E k) Try.f52 [] f52_un retF) ⟨[.val 27 p1, .val 27 p2, .undef, .undef, .undef, .undef, .undef, .undef, .undef], []⟩ = f52_N k (fun y0 => retF y0) p1 p2 :=
  (f52_e_mem k retF p1 p2)

noncomputable def G52 : Nat → PV → PV → (PV → R) → R
  | 0, _, _, _ => none
  | k + 1, p1, p2, ret0 => f52_N k  ret0 p1 p2
theorem S52 : ∀ k, Snd Try.prog 52 f52_I f52_O (fun x ret => G52 k x.1 x.2 (fun y0 => ret y0))
  | 0 => snd_none
  | k + 1 => snd_step (E := f52_E k ) rfl laidOut noNums orc0_ok (f := 52) (fn := Try.f52) (code := f52_code) Try.func52 (by kernel_rfl) (drawsOk_of laidOut orc0_ok mixed (by kernel_rfl)) f52_un f52_un_ok [] (fun _ => rfl)
      (fun x ret => f52_eq k  ret x.1 x.2)

/- catchpole/catchpolelaw11.star -/
noncomputable def f49_I : PV → List SV × Obs := fun x => ([.val 27 x], [])
noncomputable def f49_D : List SV → Obs → Option (PV)
  | [.val 27 p1], [] => some p1
  | _, _ => none
theorem f49_D_ok (args : List SV) (B : Obs) (x : PV) (h : f49_D args B = some x) : f49_I x = (args, B) := by
  unfold f49_D at h
  split at h
  · injection h with h; subst h; rfl
  · cases h
noncomputable def f49_O : PV → Out := (fun y => ([.val 27 y], []))
noncomputable def f49_un : Out → Option (PV)
  | ([.val 27 y0], []) => some y0
  | _ => none
theorem f49_un_ok (o : Out) (y : PV) (h : f49_un o = some y) : o = f49_O y := by
  unfold f49_un at h
  split at h
  · injection h with h; subst h; rfl
  · cases h
noncomputable def f49_msk : Nat → Option (List Nat) := fun key =>  none
noncomputable def f49_C : Oracle := orc0
noncomputable def f49_E (k : Nat) : Env := { P := Try.prog, nilOwn := fun d => false, fldOwn := fun d i => false, ownPar := ownPars, ownRet := false, mask := f49_msk, fuel := k, C := f49_C }
noncomputable def f49_code : Code := Try.f49.body.getD .skip
noncomputable def f49_e (ret0 : PV → R) (p1 : PV) : R :=
  ret0 (PV.agg [(PV.int 5), (PV.agg [(PV.int 0), (PV.int 0), (PV.int 0), (PV.int 0)]), (PV.int 0), (PV.list [p1])])

theorem f49_e_mem (k : Nat) (retF : PV → R) (p1 : PV) : exec (f49_E k) f49_code (endK (f49_E k) Try.f49 [] f49_un retF) ⟨[.val 27 p1, .undef, .undef, .undef, .undef, .undef], []⟩ = f49_e (fun y0 => retF y0) p1 := by kernel_rfl

noncomputable def f49_N (k : Nat) (ret0 : PV → R) (p1 : PV) : R :=
  f49_e ret0 p1
theorem f49_eq (k : Nat) (retF : PV → R) (p1 : PV) : exec (f49_E k) f49_code (endK (f49_E k) Try.f49 [] f49_un retF) ⟨[.val 27 p1, .undef, .undef, .undef, .undef, .undef], []⟩ = f49_N k (fun y0 => retF y0) p1 :=
  (f49_e_mem k retF p1)

noncomputable def G49 : Nat → PV → (PV → R) → R
  | 0, _, _ => none
  | k + 1, p1, ret0 => f49_N k  ret0 p1
theorem S49 : ∀ k, Snd Try.prog 49 f49_I f49_O (fun x ret => G49 k x (fun y0 => ret y0))
  | 0 => snd_none
  | k + 1 => snd_step (E := f49_E k ) rfl laidOut noNums orc0_ok (f := 49) (fn := Try.f49) (code := f49_code) Try.func49 (by kernel_rfl) (drawsOk_of laidOut orc0_ok mixed (by kernel_rfl)) f49_un f49_un_ok [] (fun _ => rfl)
      (fun x ret => f49_eq k  ret x)

/- catchpole/catchpolelaw11.anew -/
noncomputable def f55_I : PV → List SV × Obs := fun x => ([.val 27 x], [])
noncomputable def f55_D : List SV → Obs → Option (PV)
  | [.val 27 p1], [] => some p1
  | _, _ => none
theorem f55_D_ok (args : List SV) (B : Obs) (x : PV) (h : f55_D args B = some x) : f55_I x = (args, B) := by
  unfold f55_D at h
  split at h
  · injection h with h; subst h; rfl
  · cases h
noncomputable def f55_O : PV → Out := (fun y => ([.val 27 y], []))
noncomputable def f55_un : Out → Option (PV)
  | ([.val 27 y0], []) => some y0
  | _ => none
theorem f55_un_ok (o : Out) (y : PV) (h : f55_un o = some y) : o = f55_O y := by
  unfold f55_un at h
  split at h
  · injection h with h; subst h; rfl
  · cases h
noncomputable def f55_msk : Nat → Option (List Nat) := fun key =>  none
noncomputable def f55_C : Oracle := orc0
noncomputable def f55_E (k : Nat) : Env := { P := Try.prog, nilOwn := fun d => false, fldOwn := fun d i => false, ownPar := ownPars, ownRet := false, mask := f55_msk, fuel := k, C := f55_C }
noncomputable def f55_code : Code := Try.f55.body.getD .skip
noncomputable def f55_e (ret0 : PV → R) (p1 : PV) : R :=
  ret0 (PV.agg [(PV.int 7), (PV.agg [(PV.int 0), (PV.int 0), (PV.int 0), (PV.int 0)]), (PV.int 0), (PV.list [p1])])

theorem f55_e_mem (k : Nat) (retF : PV → R) (p1 : PV) : exec (f55_E k) f55_code (endK (f55_E k) Try.f55 [] f55_un retF) ⟨[.val 27 p1, .undef, .undef, .undef, .undef, .undef], []⟩ = f55_e (fun y0 => retF y0) p1 := by kernel_rfl

noncomputable def f55_N (k : Nat) (ret0 : PV → R) (p1 : PV) : R :=
  f55_e ret0 p1
theorem f55_eq (k : Nat) (retF : PV → R) (p1 : PV) : exec (f55_E k) f55_code (endK (f55_E k) Try.f55 [] f55_un retF) ⟨[.val 27 p1, .undef, .undef, .undef, .undef, .undef], []⟩ = f55_N k (fun y0 => retF y0) p1 :=
  (f55_e_mem k retF p1)

noncomputable def G55 : Nat → PV → (PV → R) → R
  | 0, _, _ => none
  | k + 1, p1, ret0 => f55_N k  ret0 p1
theorem S55 : ∀ k, Snd Try.prog 55 f55_I f55_O (fun x ret => G55 k x (fun y0 => ret y0))
  | 0 => snd_none
  | k + 1 => snd_step (E := f55_E k ) rfl laidOut noNums orc0_ok (f := 55) (fn := Try.f55) (code := f55_code) Try.func55 (by kernel_rfl) (drawsOk_of laidOut orc0_ok mixed (by kernel_rfl)) f55_un f55_un_ok [] (fun _ => rfl)
      (fun x ret => f55_eq k  ret x)

/- catchpole/catchpolelaw11.grp -/
noncomputable def f54_I : Int × PV → List SV × Obs := fun x => ([.int .i64 x.1, .val 27 x.2], [])
noncomputable def f54_D : List SV → Obs → Option (Int × PV)
  | [.int .i64 n1, .val 27 p2], [] => some (n1, p2)
  | _, _ => none
theorem f54_D_ok (args : List SV) (B : Obs) (x : Int × PV) (h : f54_D args B = some x) : f54_I x = (args, B) := by
  unfold f54_D at h
  split at h
  · injection h with h; subst h; rfl
  · cases h
noncomputable def f54_O : PV → Out := (fun y => ([.val 27 y], []))
noncomputable def f54_un : Out → Option (PV)
  | ([.val 27 y0], []) => some y0
  | _ => none
theorem f54_un_ok (o : Out) (y : PV) (h : f54_un o = some y) : o = f54_O y := by
  unfold f54_un at h
  split at h
  · injection h with h; subst h; rfl
  · cases h
noncomputable def f54_msk : Nat → Option (List Nat) := fun key =>  none
noncomputable def f54_C : Oracle := orc0
noncomputable def f54_E (k : Nat) : Env := { P := Try.prog, nilOwn := fun d => false, fldOwn := fun d i => false, ownPar := ownPars, ownRet := false, mask := f54_msk, fuel := k, C := f54_C }
noncomputable def f54_code : Code := Try.f54.body.getD .skip
noncomputable def f54_e (ret0 : PV → R) (n1 : Int) (p2 : PV) : R :=
  ret0 (PV.agg [(PV.int 6), (PV.agg [(PV.int 0), (PV.int 0), (PV.int 0), (PV.int 0)]), (PV.int n1), (PV.list [p2])])

theorem f54_e_mem (k : Nat) (retF : PV → R) (n1 : Int) (p2 : PV) : exec (f54_E k) f54_code (endK (f54_E k) Try.f54 [] f54_un retF) ⟨[.int .i64 n1, .val 27 p2, .undef, .undef, .undef, .undef, .undef, .undef, .undef], []⟩ = f54_e (fun y0 => retF y0) n1 p2 := by kernel_rfl

noncomputable def f54_N (k : Nat) (ret0 : PV → R) (n1 : Int) (p2 : PV) : R :=
  f54_e ret0 n1 p2
theorem f54_eq (k : Nat) (retF : PV → R) (n1 : Int) (p2 : PV) : exec (f54_E k) f54_code (endK (f54_E k) Try.f54 [] f54_un retF) ⟨[.int .i64 n1, .val 27 p2, .undef, .undef, .undef, .undef, .undef, .undef, .undef], []⟩ = f54_N k (fun y0 => retF y0) n1 p2 :=
  (f54_e_mem k retF n1 p2)

noncomputable def G54 : Nat → Int → PV → (PV → R) → R
  | 0, _, _, _ => none
  | k + 1, n1, p2, ret0 => f54_N k  ret0 n1 p2
theorem S54 : ∀ k, Snd Try.prog 54 f54_I f54_O (fun x ret => G54 k x.1 x.2 (fun y0 => ret y0))
  | 0 => snd_none
  | k + 1 => snd_step (E := f54_E k ) rfl laidOut noNums orc0_ok (f := 54) (fn := Try.f54) (code := f54_code) Try.func54 (by kernel_rfl) (drawsOk_of laidOut orc0_ok mixed (by kernel_rfl)) f54_un f54_un_ok [] (fun _ => rfl)
      (fun x ret => f54_eq k  ret x.1 x.2)

/- catchpole/value.text -/
noncomputable def f60v1_I : PV × (List PV) → List SV × Obs := fun x => ([.ptr 2000000 [], .val 30 x.1], [(2000000, .box 76 (.agg 76 [.ptr 2000000 [], .own 43 2000001])), (2000001, .row 5 x.2)])
noncomputable def f60v1_D : List SV → Obs → Option (PV × (List PV))
  | [.ptr 2000000 [], .val 30 p1], [(2000000, .box 76 (.agg 76 [.ptr 2000000 [], .own 43 2000001])), (2000001, .row 5 l2)] => some (p1, l2)
  | _, _ => none
theorem f60v1_D_ok (args : List SV) (B : Obs) (x : PV × (List PV)) (h : f60v1_D args B = some x) : f60v1_I x = (args, B) := by
  unfold f60v1_D at h
  split at h
  · injection h with h; subst h; rfl
  · cases h
noncomputable def f60v1_O : (List PV) → Out := (fun y => ([], [(2000000, .box 76 (.agg 76 [.ptr 2000000 [], .own 43 2000001])), (2000001, .row 5 y)]))
noncomputable def f60v1_un : Out → Option ((List PV))
  | ([], [(2000000, .box 76 (.agg 76 [.ptr 2000000 [], .own 43 2000001])), (2000001, .row 5 y0)]) => some y0
  | _ => none
theorem f60v1_un_ok (o : Out) (y : (List PV)) (h : f60v1_un o = some y) : o = f60v1_O y := by
  unfold f60v1_un at h
  split at h
  · injection h with h; subst h; rfl
  · cases h
noncomputable def f60v1_msk : Nat → Option (List Nat) := fun key => bif key == 63 then some [0, 5, 49, 50, 51] else none
noncomputable def f60v1_C (c59 : PV → (PV → R) → R) (c60v1 : PV → (List PV) → ((List PV) → R) → R) (c82v1 : (List Int) → (List PV) → (Int → PV → (List PV) → R) → R) : Oracle := orc 59 f59_D f59_O (fun x ret => c59 x (fun y0 => ret y0)) <| orc 60 f60v1_D f60v1_O (fun x ret => c60v1 x.1 x.2 (fun y0 => ret y0)) <| orc 82 f82v1_D f82v1_O (fun x ret => c82v1 x.1 x.2 (fun y0 y1 y2 => ret (y0, y1, y2))) <| orc0
noncomputable def f60v1_E (k : Nat) (c59 : PV → (PV → R) → R) (c60v1 : PV → (List PV) → ((List PV) → R) → R) (c82v1 : (List Int) → (List PV) → (Int → PV → (List PV) → R) → R) : Env := { P := Try.prog, nilOwn := fun d => false, fldOwn := fun d i => false, ownPar := ownPars, ownRet := false, mask := f60v1_msk, fuel := k, C := f60v1_C c59 c60v1 c82v1 }
noncomputable def f60v1_code : Code := Try.f60.body.getD .skip
noncomputable def f60v1_cw1 : Code := subC f60v1_code [1, 1, 1, 1, 0, 1, 0, 0]
noncomputable def f60v1_hw1_0 (p6 : PV) (n11 : Int) (l12 : List PV) : St := ⟨[.ptr 2000000 [], .dead, .dead, .dead, .dead, .str [], .dead, .dead, .dead, .dead, .dead, .dead, .dead, .dead, .dead, .dead, .dead, .dead, .dead, .dead, .dead, .dead, .dead, .dead, .dead, .dead, .dead, .dead, .dead, .dead, .dead, .dead, .dead, .dead, .dead, .dead, .dead, .dead, .dead, .dead, .dead, .dead, .dead, .dead, .dead, .dead, .dead, .dead, .dead, .val 28 p6, .int .i64 (List.length (PV.els p6) : Int), .int .i64 n11, .dead, .dead, .dead, .dead, .dead, .dead, .dead, .dead, .dead, .dead, .dead, .dead, .dead, .dead, .dead], [(2000000, .box 76 (.agg 76 [.ptr 2000000 [], .own 43 2000001])), (2000001, .row 5 l12)]⟩
noncomputable def f60v1_w1A (k : Nat) (c59 : PV → (PV → R) → R) (c60v1 : PV → (List PV) → ((List PV) → R) → R) (c82v1 : (List Int) → (List PV) → (Int → PV → (List PV) → R) → R) (retF : (List PV) → R) (p6 : PV) (n11 : Int) (l12 : List PV) : R := loopM (f60v1_E k c59 c60v1 c82v1) f60v1_cw1 (kont (f60v1_E k c59 c60v1 c82v1) f60v1_code [1, 1, 1, 1, 0, 1, 0] (endK (f60v1_E k c59 c60v1 c82v1) Try.f60 [2000000, 2000001] f60v1_un retF)) k (f60v1_hw1_0 p6 n11 l12)
noncomputable def f60v1_w1b0 (c59 : PV → (PV → R) → R) (c60v1 : PV → (List PV) → ((List PV) → R) → R) (c82v1 : (List Int) → (List PV) → (Int → PV → (List PV) → R) → R) (ret0 : (List PV) → R) (next_w1_0 : Int → (List PV) → R) (p6 : PV) (n11 : Int) (l12 : List PV) : R :=
  bif (decide (n11 < (List.length (PV.els p6) : Int))) then
    bif (true && decide ((0 : Int) ≤ n11) && decide (n11 < (List.length (PV.els p6) : Int))) then
      bif (decide ((0 : Int) < n11)) then
        c82v1 [44] l12 fun n13 p14 l15 =>
        c60v1 (List.getD (PV.els p6) (n11).toNat PV.nil) l15 fun l16 =>
        next_w1_0 (IntKind.wrap .i64 (n11 + (1 : Int))) l16
      else c60v1 (List.getD (PV.els p6) (n11).toNat PV.nil) l12 fun l17 =>
      next_w1_0 (IntKind.wrap .i64 (n11 + (1 : Int))) l17
    else none
  else c82v1 [] l12 fun n18 p19 l20 =>
  ret0 l20

theorem f60v1_w1b0_mem (k : Nat) (c59 : PV → (PV → R) → R) (c60v1 : PV → (List PV) → ((List PV) → R) → R) (c82v1 : (List Int) → (List PV) → (Int → PV → (List PV) → R) → R) (retF : (List PV) → R) (NX_w1 : St → R) (p6 : PV) (n11 : Int) (l12 : List PV) : exec (f60v1_E k c59 c60v1 c82v1) f60v1_cw1 (purgeK (f60v1_E k c59 c60v1 c82v1) f60v1_cw1 (loopK NX_w1 (kont (f60v1_E k c59 c60v1 c82v1) f60v1_code [1, 1, 1, 1, 0, 1, 0] (endK (f60v1_E k c59 c60v1 c82v1) Try.f60 [2000000, 2000001] f60v1_un retF)))) (f60v1_hw1_0 p6 n11 l12) = f60v1_w1b0 c59 c60v1 c82v1 (fun y0 => retF y0) (fun n11 l12 => NX_w1 (f60v1_hw1_0 p6 n11 l12)) p6 n11 l12 := by kernel_rfl

noncomputable def f60v1_w1b0N (k : Nat) (c59 : PV → (PV → R) → R) (c60v1 : PV → (List PV) → ((List PV) → R) → R) (c82v1 : (List Int) → (List PV) → (Int → PV → (List PV) → R) → R) (ret0 : (List PV) → R) (next_w1_0 : Int → (List PV) → R) (p6 : PV) (n11 : Int) (l12 : List PV) : R :=
  f60v1_w1b0 c59 c60v1 c82v1 ret0 next_w1_0 p6 n11 l12
theorem f60v1_w1b0_eq (k : Nat) (c59 : PV → (PV → R) → R) (c60v1 : PV → (List PV) → ((List PV) → R) → R) (c82v1 : (List Int) → (List PV) → (Int → PV → (List PV) → R) → R) (retF : (List PV) → R) (NX_w1 : St → R) (p6 : PV) (n11 : Int) (l12 : List PV) : exec (f60v1_E k c59 c60v1 c82v1) f60v1_cw1 (purgeK (f60v1_E k c59 c60v1 c82v1) f60v1_cw1 (loopK NX_w1 (kont (f60v1_E k c59 c60v1 c82v1) f60v1_code [1, 1, 1, 1, 0, 1, 0] (endK (f60v1_E k c59 c60v1 c82v1) Try.f60 [2000000, 2000001] f60v1_un retF)))) (f60v1_hw1_0 p6 n11 l12) = f60v1_w1b0N k c59 c60v1 c82v1 (fun y0 => retF y0) (fun n11 l12 => NX_w1 (f60v1_hw1_0 p6 n11 l12)) p6 n11 l12 :=
  (f60v1_w1b0_mem k c59 c60v1 c82v1 retF NX_w1 p6 n11 l12)

noncomputable def f60v1_w1B (k : Nat) (c59 : PV → (PV → R) → R) (c60v1 : PV → (List PV) → ((List PV) → R) → R) (c82v1 : (List Int) → (List PV) → (Int → PV → (List PV) → R) → R) (ret0 : (List PV) → R) (p6 : PV) (nx : Int × (List PV) → R) : Int × (List PV) → R := (fun s => f60v1_w1b0N k c59 c60v1 c82v1 ret0 (fun n11 l12 => nx (n11, l12)) p6 s.1 s.2)
noncomputable def f60v1_w1N (k : Nat) (c59 : PV → (PV → R) → R) (c60v1 : PV → (List PV) → ((List PV) → R) → R) (c82v1 : (List Int) → (List PV) → (Int → PV → (List PV) → R) → R) (ret0 : (List PV) → R) (p6 : PV) (n11 : Int) (l12 : List PV) : R := loopR (f60v1_w1B k c59 c60v1 c82v1 ret0 p6) k (n11, l12)
theorem f60v1_w1_eq (k : Nat) (c59 : PV → (PV → R) → R) (c60v1 : PV → (List PV) → ((List PV) → R) → R) (c82v1 : (List Int) → (List PV) → (Int → PV → (List PV) → R) → R) (retF : (List PV) → R) (p6 : PV) (n11 : Int) (l12 : List PV) : f60v1_w1A k c59 c60v1 c82v1 retF p6 n11 l12 = f60v1_w1N k c59 c60v1 c82v1 (fun y0 => retF y0) p6 n11 l12 :=
  Eq.mp (by kernel_rfl) (loop_sim (E := (f60v1_E k c59 c60v1 c82v1)) (c := f60v1_cw1) (K := (kont (f60v1_E k c59 c60v1 c82v1) f60v1_code [1, 1, 1, 1, 0, 1, 0] (endK (f60v1_E k c59 c60v1 c82v1) Try.f60 [2000000, 2000001] f60v1_un retF))) (S := Int × (List PV)) (fun s => f60v1_hw1_0 p6 s.1 s.2) (f60v1_w1B k c59 c60v1 c82v1 (fun y0 => retF y0) p6) (fun NX s => by
    exact Eq.mp (by kernel_rfl) (f60v1_w1b0_eq k c59 c60v1 c82v1 retF NX p6 s.1 s.2)) k (n11, l12))

noncomputable def f60v1_cw2 : Code := subC f60v1_code [1, 1, 1, 1, 0, 1, 0, 0]
noncomputable def f60v1_hw2_0 (p26 : PV) (n31 : Int) (l32 : List PV) : St := ⟨[.ptr 2000000 [], .dead, .dead, .dead, .dead, .str [], .dead, .dead, .dead, .dead, .dead, .dead, .dead, .dead, .dead, .dead, .dead, .dead, .dead, .dead, .dead, .dead, .dead, .dead, .dead, .dead, .dead, .dead, .dead, .dead, .dead, .dead, .dead, .dead, .dead, .dead, .dead, .dead, .dead, .dead, .dead, .dead, .dead, .dead, .dead, .dead, .dead, .dead, .dead, .val 28 p26, .int .i64 (List.length (PV.els p26) : Int), .int .i64 n31, .dead, .dead, .dead, .dead, .dead, .dead, .dead, .dead, .dead, .dead, .dead, .dead, .dead, .dead, .dead], [(2000000, .box 76 (.agg 76 [.ptr 2000000 [], .own 43 2000001])), (2000001, .row 5 l32)]⟩
noncomputable def f60v1_w2A (k : Nat) (c59 : PV → (PV → R) → R) (c60v1 : PV → (List PV) → ((List PV) → R) → R) (c82v1 : (List Int) → (List PV) → (Int → PV → (List PV) → R) → R) (retF : (List PV) → R) (p26 : PV) (n31 : Int) (l32 : List PV) : R := loopM (f60v1_E k c59 c60v1 c82v1) f60v1_cw2 (kont (f60v1_E k c59 c60v1 c82v1) f60v1_code [1, 1, 1, 1, 0, 1, 0] (endK (f60v1_E k c59 c60v1 c82v1) Try.f60 [2000000, 2000001] f60v1_un retF)) k (f60v1_hw2_0 p26 n31 l32)
noncomputable def f60v1_w2b0 (c59 : PV → (PV → R) → R) (c60v1 : PV → (List PV) → ((List PV) → R) → R) (c82v1 : (List Int) → (List PV) → (Int → PV → (List PV) → R) → R) (ret0 : (List PV) → R) (next_w2_0 : Int → (List PV) → R) (p26 : PV) (n31 : Int) (l32 : List PV) : R :=
  bif (decide (n31 < (List.length (PV.els p26) : Int))) then
    bif (true && decide ((0 : Int) ≤ n31) && decide (n31 < (List.length (PV.els p26) : Int))) then
      bif (decide ((0 : Int) < n31)) then
        c82v1 [44] l32 fun n33 p34 l35 =>
        c60v1 (List.getD (PV.els p26) (n31).toNat PV.nil) l35 fun l36 =>
        next_w2_0 (IntKind.wrap .i64 (n31 + (1 : Int))) l36
      else c60v1 (List.getD (PV.els p26) (n31).toNat PV.nil) l32 fun l37 =>
      next_w2_0 (IntKind.wrap .i64 (n31 + (1 : Int))) l37
    else none
  else c82v1 [] l32 fun n38 p39 l40 =>
  ret0 l40

theorem f60v1_w2b0_mem (k : Nat) (c59 : PV → (PV → R) → R) (c60v1 : PV → (List PV) → ((List PV) → R) → R) (c82v1 : (List Int) → (List PV) → (Int → PV → (List PV) → R) → R) (retF : (List PV) → R) (NX_w2 : St → R) (p26 : PV) (n31 : Int) (l32 : List PV) : exec (f60v1_E k c59 c60v1 c82v1) f60v1_cw2 (purgeK (f60v1_E k c59 c60v1 c82v1) f60v1_cw2 (loopK NX_w2 (kont (f60v1_E k c59 c60v1 c82v1) f60v1_code [1, 1, 1, 1, 0, 1, 0] (endK (f60v1_E k c59 c60v1 c82v1) Try.f60 [2000000, 2000001] f60v1_un retF)))) (f60v1_hw2_0 p26 n31 l32) = f60v1_w2b0 c59 c60v1 c82v1 (fun y0 => retF y0) (fun n31 l32 => NX_w2 (f60v1_hw2_0 p26 n31 l32)) p26 n31 l32 := by kernel_rfl

noncomputable def f60v1_w2b0N (k : Nat) (c59 : PV → (PV → R) → R) (c60v1 : PV → (List PV) → ((List PV) → R) → R) (c82v1 : (List Int) → (List PV) → (Int → PV → (List PV) → R) → R) (ret0 : (List PV) → R) (next_w2_0 : Int → (List PV) → R) (p26 : PV) (n31 : Int) (l32 : List PV) : R :=
  f60v1_w2b0 c59 c60v1 c82v1 ret0 next_w2_0 p26 n31 l32
theorem f60v1_w2b0_eq (k : Nat) (c59 : PV → (PV → R) → R) (c60v1 : PV → (List PV) → ((List PV) → R) → R) (c82v1 : (List Int) → (List PV) → (Int → PV → (List PV) → R) → R) (retF : (List PV) → R) (NX_w2 : St → R) (p26 : PV) (n31 : Int) (l32 : List PV) : exec (f60v1_E k c59 c60v1 c82v1) f60v1_cw2 (purgeK (f60v1_E k c59 c60v1 c82v1) f60v1_cw2 (loopK NX_w2 (kont (f60v1_E k c59 c60v1 c82v1) f60v1_code [1, 1, 1, 1, 0, 1, 0] (endK (f60v1_E k c59 c60v1 c82v1) Try.f60 [2000000, 2000001] f60v1_un retF)))) (f60v1_hw2_0 p26 n31 l32) = f60v1_w2b0N k c59 c60v1 c82v1 (fun y0 => retF y0) (fun n31 l32 => NX_w2 (f60v1_hw2_0 p26 n31 l32)) p26 n31 l32 :=
  (f60v1_w2b0_mem k c59 c60v1 c82v1 retF NX_w2 p26 n31 l32)

noncomputable def f60v1_w2B (k : Nat) (c59 : PV → (PV → R) → R) (c60v1 : PV → (List PV) → ((List PV) → R) → R) (c82v1 : (List Int) → (List PV) → (Int → PV → (List PV) → R) → R) (ret0 : (List PV) → R) (p26 : PV) (nx : Int × (List PV) → R) : Int × (List PV) → R := (fun s => f60v1_w2b0N k c59 c60v1 c82v1 ret0 (fun n31 l32 => nx (n31, l32)) p26 s.1 s.2)
noncomputable def f60v1_w2N (k : Nat) (c59 : PV → (PV → R) → R) (c60v1 : PV → (List PV) → ((List PV) → R) → R) (c82v1 : (List Int) → (List PV) → (Int → PV → (List PV) → R) → R) (ret0 : (List PV) → R) (p26 : PV) (n31 : Int) (l32 : List PV) : R := loopR (f60v1_w2B k c59 c60v1 c82v1 ret0 p26) k (n31, l32)
theorem f60v1_w2_eq (k : Nat) (c59 : PV → (PV → R) → R) (c60v1 : PV → (List PV) → ((List PV) → R) → R) (c82v1 : (List Int) → (List PV) → (Int → PV → (List PV) → R) → R) (retF : (List PV) → R) (p26 : PV) (n31 : Int) (l32 : List PV) : f60v1_w2A k c59 c60v1 c82v1 retF p26 n31 l32 = f60v1_w2N k c59 c60v1 c82v1 (fun y0 => retF y0) p26 n31 l32 :=
  Eq.mp (by kernel_rfl) (loop_sim (E := (f60v1_E k c59 c60v1 c82v1)) (c := f60v1_cw2) (K := (kont (f60v1_E k c59 c60v1 c82v1) f60v1_code [1, 1, 1, 1, 0, 1, 0] (endK (f60v1_E k c59 c60v1 c82v1) Try.f60 [2000000, 2000001] f60v1_un retF))) (S := Int × (List PV)) (fun s => f60v1_hw2_0 p26 s.1 s.2) (f60v1_w2B k c59 c60v1 c82v1 (fun y0 => retF y0) p26) (fun NX s => by
    exact Eq.mp (by kernel_rfl) (f60v1_w2b0_eq k c59 c60v1 c82v1 retF NX p26 s.1 s.2)) k (n31, l32))

noncomputable def f60v1_cw3 : Code := subC f60v1_code [1, 1, 1, 1, 0, 1, 0, 0]
noncomputable def f60v1_hw3_0 (p44 : PV) (n49 : Int) (l50 : List PV) : St := ⟨[.ptr 2000000 [], .dead, .dead, .dead, .dead, .str [44, 41], .dead, .dead, .dead, .dead, .dead, .dead, .dead, .dead, .dead, .dead, .dead, .dead, .dead, .dead, .dead, .dead, .dead, .dead, .dead, .dead, .dead, .dead, .dead, .dead, .dead, .dead, .dead, .dead, .dead, .dead, .dead, .dead, .dead, .dead, .dead, .dead, .dead, .dead, .dead, .dead, .dead, .dead, .dead, .val 28 p44, .int .i64 (List.length (PV.els p44) : Int), .int .i64 n49, .dead, .dead, .dead, .dead, .dead, .dead, .dead, .dead, .dead, .dead, .dead, .dead, .dead, .dead, .dead], [(2000000, .box 76 (.agg 76 [.ptr 2000000 [], .own 43 2000001])), (2000001, .row 5 l50)]⟩
noncomputable def f60v1_w3A (k : Nat) (c59 : PV → (PV → R) → R) (c60v1 : PV → (List PV) → ((List PV) → R) → R) (c82v1 : (List Int) → (List PV) → (Int → PV → (List PV) → R) → R) (retF : (List PV) → R) (p44 : PV) (n49 : Int) (l50 : List PV) : R := loopM (f60v1_E k c59 c60v1 c82v1) f60v1_cw3 (kont (f60v1_E k c59 c60v1 c82v1) f60v1_code [1, 1, 1, 1, 0, 1, 0] (endK (f60v1_E k c59 c60v1 c82v1) Try.f60 [2000000, 2000001] f60v1_un retF)) k (f60v1_hw3_0 p44 n49 l50)
noncomputable def f60v1_w3b0 (c59 : PV → (PV → R) → R) (c60v1 : PV → (List PV) → ((List PV) → R) → R) (c82v1 : (List Int) → (List PV) → (Int → PV → (List PV) → R) → R) (ret0 : (List PV) → R) (next_w3_0 : Int → (List PV) → R) (p44 : PV) (n49 : Int) (l50 : List PV) : R :=
  bif (decide (n49 < (List.length (PV.els p44) : Int))) then
    bif (true && decide ((0 : Int) ≤ n49) && decide (n49 < (List.length (PV.els p44) : Int))) then
      bif (decide ((0 : Int) < n49)) then
        c82v1 [44] l50 fun n51 p52 l53 =>
        c60v1 (List.getD (PV.els p44) (n49).toNat PV.nil) l53 fun l54 =>
        next_w3_0 (IntKind.wrap .i64 (n49 + (1 : Int))) l54
      else c60v1 (List.getD (PV.els p44) (n49).toNat PV.nil) l50 fun l55 =>
      next_w3_0 (IntKind.wrap .i64 (n49 + (1 : Int))) l55
    else none
  else c82v1 [44, 41] l50 fun n56 p57 l58 =>
  ret0 l58

theorem f60v1_w3b0_mem (k : Nat) (c59 : PV → (PV → R) → R) (c60v1 : PV → (List PV) → ((List PV) → R) → R) (c82v1 : (List Int) → (List PV) → (Int → PV → (List PV) → R) → R) (retF : (List PV) → R) (NX_w3 : St → R) (p44 : PV) (n49 : Int) (l50 : List PV) : exec (f60v1_E k c59 c60v1 c82v1) f60v1_cw3 (purgeK (f60v1_E k c59 c60v1 c82v1) f60v1_cw3 (loopK NX_w3 (kont (f60v1_E k c59 c60v1 c82v1) f60v1_code [1, 1, 1, 1, 0, 1, 0] (endK (f60v1_E k c59 c60v1 c82v1) Try.f60 [2000000, 2000001] f60v1_un retF)))) (f60v1_hw3_0 p44 n49 l50) = f60v1_w3b0 c59 c60v1 c82v1 (fun y0 => retF y0) (fun n49 l50 => NX_w3 (f60v1_hw3_0 p44 n49 l50)) p44 n49 l50 := by kernel_rfl

noncomputable def f60v1_w3b0N (k : Nat) (c59 : PV → (PV → R) → R) (c60v1 : PV → (List PV) → ((List PV) → R) → R) (c82v1 : (List Int) → (List PV) → (Int → PV → (List PV) → R) → R) (ret0 : (List PV) → R) (next_w3_0 : Int → (List PV) → R) (p44 : PV) (n49 : Int) (l50 : List PV) : R :=
  f60v1_w3b0 c59 c60v1 c82v1 ret0 next_w3_0 p44 n49 l50
theorem f60v1_w3b0_eq (k : Nat) (c59 : PV → (PV → R) → R) (c60v1 : PV → (List PV) → ((List PV) → R) → R) (c82v1 : (List Int) → (List PV) → (Int → PV → (List PV) → R) → R) (retF : (List PV) → R) (NX_w3 : St → R) (p44 : PV) (n49 : Int) (l50 : List PV) : exec (f60v1_E k c59 c60v1 c82v1) f60v1_cw3 (purgeK (f60v1_E k c59 c60v1 c82v1) f60v1_cw3 (loopK NX_w3 (kont (f60v1_E k c59 c60v1 c82v1) f60v1_code [1, 1, 1, 1, 0, 1, 0] (endK (f60v1_E k c59 c60v1 c82v1) Try.f60 [2000000, 2000001] f60v1_un retF)))) (f60v1_hw3_0 p44 n49 l50) = f60v1_w3b0N k c59 c60v1 c82v1 (fun y0 => retF y0) (fun n49 l50 => NX_w3 (f60v1_hw3_0 p44 n49 l50)) p44 n49 l50 :=
  (f60v1_w3b0_mem k c59 c60v1 c82v1 retF NX_w3 p44 n49 l50)

noncomputable def f60v1_w3B (k : Nat) (c59 : PV → (PV → R) → R) (c60v1 : PV → (List PV) → ((List PV) → R) → R) (c82v1 : (List Int) → (List PV) → (Int → PV → (List PV) → R) → R) (ret0 : (List PV) → R) (p44 : PV) (nx : Int × (List PV) → R) : Int × (List PV) → R := (fun s => f60v1_w3b0N k c59 c60v1 c82v1 ret0 (fun n49 l50 => nx (n49, l50)) p44 s.1 s.2)
noncomputable def f60v1_w3N (k : Nat) (c59 : PV → (PV → R) → R) (c60v1 : PV → (List PV) → ((List PV) → R) → R) (c82v1 : (List Int) → (List PV) → (Int → PV → (List PV) → R) → R) (ret0 : (List PV) → R) (p44 : PV) (n49 : Int) (l50 : List PV) : R := loopR (f60v1_w3B k c59 c60v1 c82v1 ret0 p44) k (n49, l50)
theorem f60v1_w3_eq (k : Nat) (c59 : PV → (PV → R) → R) (c60v1 : PV → (List PV) → ((List PV) → R) → R) (c82v1 : (List Int) → (List PV) → (Int → PV → (List PV) → R) → R) (retF : (List PV) → R) (p44 : PV) (n49 : Int) (l50 : List PV) : f60v1_w3A k c59 c60v1 c82v1 retF p44 n49 l50 = f60v1_w3N k c59 c60v1 c82v1 (fun y0 => retF y0) p44 n49 l50 :=
  Eq.mp (by kernel_rfl) (loop_sim (E := (f60v1_E k c59 c60v1 c82v1)) (c := f60v1_cw3) (K := (kont (f60v1_E k c59 c60v1 c82v1) f60v1_code [1, 1, 1, 1, 0, 1, 0] (endK (f60v1_E k c59 c60v1 c82v1) Try.f60 [2000000, 2000001] f60v1_un retF))) (S := Int × (List PV)) (fun s => f60v1_hw3_0 p44 s.1 s.2) (f60v1_w3B k c59 c60v1 c82v1 (fun y0 => retF y0) p44) (fun NX s => by
    exact Eq.mp (by kernel_rfl) (f60v1_w3b0_eq k c59 c60v1 c82v1 retF NX p44 s.1 s.2)) k (n49, l50))

noncomputable def f60v1_cw4 : Code := subC f60v1_code [1, 1, 1, 1, 0, 1, 0, 0]
noncomputable def f60v1_hw4_0 (p62 : PV) (n67 : Int) (l68 : List PV) : St := ⟨[.ptr 2000000 [], .dead, .dead, .dead, .dead, .str [41], .dead, .dead, .dead, .dead, .dead, .dead, .dead, .dead, .dead, .dead, .dead, .dead, .dead, .dead, .dead, .dead, .dead, .dead, .dead, .dead, .dead, .dead, .dead, .dead, .dead, .dead, .dead, .dead, .dead, .dead, .dead, .dead, .dead, .dead, .dead, .dead, .dead, .dead, .dead, .dead, .dead, .dead, .dead, .val 28 p62, .int .i64 (List.length (PV.els p62) : Int), .int .i64 n67, .dead, .dead, .dead, .dead, .dead, .dead, .dead, .dead, .dead, .dead, .dead, .dead, .dead, .dead, .dead], [(2000000, .box 76 (.agg 76 [.ptr 2000000 [], .own 43 2000001])), (2000001, .row 5 l68)]⟩
noncomputable def f60v1_w4A (k : Nat) (c59 : PV → (PV → R) → R) (c60v1 : PV → (List PV) → ((List PV) → R) → R) (c82v1 : (List Int) → (List PV) → (Int → PV → (List PV) → R) → R) (retF : (List PV) → R) (p62 : PV) (n67 : Int) (l68 : List PV) : R := loopM (f60v1_E k c59 c60v1 c82v1) f60v1_cw4 (kont (f60v1_E k c59 c60v1 c82v1) f60v1_code [1, 1, 1, 1, 0, 1, 0] (endK (f60v1_E k c59 c60v1 c82v1) Try.f60 [2000000, 2000001] f60v1_un retF)) k (f60v1_hw4_0 p62 n67 l68)
noncomputable def f60v1_w4b0 (c59 : PV → (PV → R) → R) (c60v1 : PV → (List PV) → ((List PV) → R) → R) (c82v1 : (List Int) → (List PV) → (Int → PV → (List PV) → R) → R) (ret0 : (List PV) → R) (next_w4_0 : Int → (List PV) → R) (p62 : PV) (n67 : Int) (l68 : List PV) : R :=
  bif (decide (n67 < (List.length (PV.els p62) : Int))) then
    bif (true && decide ((0 : Int) ≤ n67) && decide (n67 < (List.length (PV.els p62) : Int))) then
      bif (decide ((0 : Int) < n67)) then
        c82v1 [44] l68 fun n69 p70 l71 =>
        c60v1 (List.getD (PV.els p62) (n67).toNat PV.nil) l71 fun l72 =>
        next_w4_0 (IntKind.wrap .i64 (n67 + (1 : Int))) l72
      else c60v1 (List.getD (PV.els p62) (n67).toNat PV.nil) l68 fun l73 =>
      next_w4_0 (IntKind.wrap .i64 (n67 + (1 : Int))) l73
    else none
  else c82v1 [41] l68 fun n74 p75 l76 =>
  ret0 l76

theorem f60v1_w4b0_mem (k : Nat) (c59 : PV → (PV → R) → R) (c60v1 : PV → (List PV) → ((List PV) → R) → R) (c82v1 : (List Int) → (List PV) → (Int → PV → (List PV) → R) → R) (retF : (List PV) → R) (NX_w4 : St → R) (p62 : PV) (n67 : Int) (l68 : List PV) : exec (f60v1_E k c59 c60v1 c82v1) f60v1_cw4 (purgeK (f60v1_E k c59 c60v1 c82v1) f60v1_cw4 (loopK NX_w4 (kont (f60v1_E k c59 c60v1 c82v1) f60v1_code [1, 1, 1, 1, 0, 1, 0] (endK (f60v1_E k c59 c60v1 c82v1) Try.f60 [2000000, 2000001] f60v1_un retF)))) (f60v1_hw4_0 p62 n67 l68) = f60v1_w4b0 c59 c60v1 c82v1 (fun y0 => retF y0) (fun n67 l68 => NX_w4 (f60v1_hw4_0 p62 n67 l68)) p62 n67 l68 := by kernel_rfl

noncomputable def f60v1_w4b0N (k : Nat) (c59 : PV → (PV → R) → R) (c60v1 : PV → (List PV) → ((List PV) → R) → R) (c82v1 : (List Int) → (List PV) → (Int → PV → (List PV) → R) → R) (ret0 : (List PV) → R) (next_w4_0 : Int → (List PV) → R) (p62 : PV) (n67 : Int) (l68 : List PV) : R :=
  f60v1_w4b0 c59 c60v1 c82v1 ret0 next_w4_0 p62 n67 l68
theorem f60v1_w4b0_eq (k : Nat) (c59 : PV → (PV → R) → R) (c60v1 : PV → (List PV) → ((List PV) → R) → R) (c82v1 : (List Int) → (List PV) → (Int → PV → (List PV) → R) → R) (retF : (List PV) → R) (NX_w4 : St → R) (p62 : PV) (n67 : Int) (l68 : List PV) : exec (f60v1_E k c59 c60v1 c82v1) f60v1_cw4 (purgeK (f60v1_E k c59 c60v1 c82v1) f60v1_cw4 (loopK NX_w4 (kont (f60v1_E k c59 c60v1 c82v1) f60v1_code [1, 1, 1, 1, 0, 1, 0] (endK (f60v1_E k c59 c60v1 c82v1) Try.f60 [2000000, 2000001] f60v1_un retF)))) (f60v1_hw4_0 p62 n67 l68) = f60v1_w4b0N k c59 c60v1 c82v1 (fun y0 => retF y0) (fun n67 l68 => NX_w4 (f60v1_hw4_0 p62 n67 l68)) p62 n67 l68 :=
  (f60v1_w4b0_mem k c59 c60v1 c82v1 retF NX_w4 p62 n67 l68)

noncomputable def f60v1_w4B (k : Nat) (c59 : PV → (PV → R) → R) (c60v1 : PV → (List PV) → ((List PV) → R) → R) (c82v1 : (List Int) → (List PV) → (Int → PV → (List PV) → R) → R) (ret0 : (List PV) → R) (p62 : PV) (nx : Int × (List PV) → R) : Int × (List PV) → R := (fun s => f60v1_w4b0N k c59 c60v1 c82v1 ret0 (fun n67 l68 => nx (n67, l68)) p62 s.1 s.2)
noncomputable def f60v1_w4N (k : Nat) (c59 : PV → (PV → R) → R) (c60v1 : PV → (List PV) → ((List PV) → R) → R) (c82v1 : (List Int) → (List PV) → (Int → PV → (List PV) → R) → R) (ret0 : (List PV) → R) (p62 : PV) (n67 : Int) (l68 : List PV) : R := loopR (f60v1_w4B k c59 c60v1 c82v1 ret0 p62) k (n67, l68)
theorem f60v1_w4_eq (k : Nat) (c59 : PV → (PV → R) → R) (c60v1 : PV → (List PV) → ((List PV) → R) → R) (c82v1 : (List Int) → (List PV) → (Int → PV → (List PV) → R) → R) (retF : (List PV) → R) (p62 : PV) (n67 : Int) (l68 : List PV) : f60v1_w4A k c59 c60v1 c82v1 retF p62 n67 l68 = f60v1_w4N k c59 c60v1 c82v1 (fun y0 => retF y0) p62 n67 l68 :=
  Eq.mp (by kernel_rfl) (loop_sim (E := (f60v1_E k c59 c60v1 c82v1)) (c := f60v1_cw4) (K := (kont (f60v1_E k c59 c60v1 c82v1) f60v1_code [1, 1, 1, 1, 0, 1, 0] (endK (f60v1_E k c59 c60v1 c82v1) Try.f60 [2000000, 2000001] f60v1_un retF))) (S := Int × (List PV)) (fun s => f60v1_hw4_0 p62 s.1 s.2) (f60v1_w4B k c59 c60v1 c82v1 (fun y0 => retF y0) p62) (fun NX s => by
    exact Eq.mp (by kernel_rfl) (f60v1_w4b0_eq k c59 c60v1 c82v1 retF NX p62 s.1 s.2)) k (n67, l68))

noncomputable def f60v1_cw5 : Code := subC f60v1_code [1, 1, 1, 1, 0, 1, 0, 0]
noncomputable def f60v1_hw5_0 (p80 : PV) (n85 : Int) (l86 : List PV) : St := ⟨[.ptr 2000000 [], .dead, .dead, .dead, .dead, .str [], .dead, .dead, .dead, .dead, .dead, .dead, .dead, .dead, .dead, .dead, .dead, .dead, .dead, .dead, .dead, .dead, .dead, .dead, .dead, .dead, .dead, .dead, .dead, .dead, .dead, .dead, .dead, .dead, .dead, .dead, .dead, .dead, .dead, .dead, .dead, .dead, .dead, .dead, .dead, .dead, .dead, .dead, .dead, .val 28 p80, .int .i64 (List.length (PV.els p80) : Int), .int .i64 n85, .dead, .dead, .dead, .dead, .dead, .dead, .dead, .dead, .dead, .dead, .dead, .dead, .dead, .dead, .dead], [(2000000, .box 76 (.agg 76 [.ptr 2000000 [], .own 43 2000001])), (2000001, .row 5 l86)]⟩
noncomputable def f60v1_w5A (k : Nat) (c59 : PV → (PV → R) → R) (c60v1 : PV → (List PV) → ((List PV) → R) → R) (c82v1 : (List Int) → (List PV) → (Int → PV → (List PV) → R) → R) (retF : (List PV) → R) (p80 : PV) (n85 : Int) (l86 : List PV) : R := loopM (f60v1_E k c59 c60v1 c82v1) f60v1_cw5 (kont (f60v1_E k c59 c60v1 c82v1) f60v1_code [1, 1, 1, 1, 0, 1, 0] (endK (f60v1_E k c59 c60v1 c82v1) Try.f60 [2000000, 2000001] f60v1_un retF)) k (f60v1_hw5_0 p80 n85 l86)
noncomputable def f60v1_w5b0 (c59 : PV → (PV → R) → R) (c60v1 : PV → (List PV) → ((List PV) → R) → R) (c82v1 : (List Int) → (List PV) → (Int → PV → (List PV) → R) → R) (ret0 : (List PV) → R) (next_w5_0 : Int → (List PV) → R) (p80 : PV) (n85 : Int) (l86 : List PV) : R :=
  bif (decide (n85 < (List.length (PV.els p80) : Int))) then
    bif (true && decide ((0 : Int) ≤ n85) && decide (n85 < (List.length (PV.els p80) : Int))) then
      bif (decide ((0 : Int) < n85)) then
        c82v1 [44] l86 fun n87 p88 l89 =>
        c60v1 (List.getD (PV.els p80) (n85).toNat PV.nil) l89 fun l90 =>
        next_w5_0 (IntKind.wrap .i64 (n85 + (1 : Int))) l90
      else c60v1 (List.getD (PV.els p80) (n85).toNat PV.nil) l86 fun l91 =>
      next_w5_0 (IntKind.wrap .i64 (n85 + (1 : Int))) l91
    else none
  else c82v1 [] l86 fun n92 p93 l94 =>
  ret0 l94

theorem f60v1_w5b0_mem (k : Nat) (c59 : PV → (PV → R) → R) (c60v1 : PV → (List PV) → ((List PV) → R) → R) (c82v1 : (List Int) → (List PV) → (Int → PV → (List PV) → R) → R) (retF : (List PV) → R) (NX_w5 : St → R) (p80 : PV) (n85 : Int) (l86 : List PV) : exec (f60v1_E k c59 c60v1 c82v1) f60v1_cw5 (purgeK (f60v1_E k c59 c60v1 c82v1) f60v1_cw5 (loopK NX_w5 (kont (f60v1_E k c59 c60v1 c82v1) f60v1_code [1, 1, 1, 1, 0, 1, 0] (endK (f60v1_E k c59 c60v1 c82v1) Try.f60 [2000000, 2000001] f60v1_un retF)))) (f60v1_hw5_0 p80 n85 l86) = f60v1_w5b0 c59 c60v1 c82v1 (fun y0 => retF y0) (fun n85 l86 => NX_w5 (f60v1_hw5_0 p80 n85 l86)) p80 n85 l86 := by kernel_rfl

noncomputable def f60v1_w5b0N (k : Nat) (c59 : PV → (PV → R) → R) (c60v1 : PV → (List PV) → ((List PV) → R) → R) (c82v1 : (List Int) → (List PV) → (Int → PV → (List PV) → R) → R) (ret0 : (List PV) → R) (next_w5_0 : Int → (List PV) → R) (p80 : PV) (n85 : Int) (l86 : List PV) : R :=
  f60v1_w5b0 c59 c60v1 c82v1 ret0 next_w5_0 p80 n85 l86
theorem f60v1_w5b0_eq (k : Nat) (c59 : PV → (PV → R) → R) (c60v1 : PV → (List PV) → ((List PV) → R) → R) (c82v1 : (List Int) → (List PV) → (Int → PV → (List PV) → R) → R) (retF : (List PV) → R) (NX_w5 : St → R) (p80 : PV) (n85 : Int) (l86 : List PV) : exec (f60v1_E k c59 c60v1 c82v1) f60v1_cw5 (purgeK (f60v1_E k c59 c60v1 c82v1) f60v1_cw5 (loopK NX_w5 (kont (f60v1_E k c59 c60v1 c82v1) f60v1_code [1, 1, 1, 1, 0, 1, 0] (endK (f60v1_E k c59 c60v1 c82v1) Try.f60 [2000000, 2000001] f60v1_un retF)))) (f60v1_hw5_0 p80 n85 l86) = f60v1_w5b0N k c59 c60v1 c82v1 (fun y0 => retF y0) (fun n85 l86 => NX_w5 (f60v1_hw5_0 p80 n85 l86)) p80 n85 l86 :=
  (f60v1_w5b0_mem k c59 c60v1 c82v1 retF NX_w5 p80 n85 l86)

noncomputable def f60v1_w5B (k : Nat) (c59 : PV → (PV → R) → R) (c60v1 : PV → (List PV) → ((List PV) → R) → R) (c82v1 : (List Int) → (List PV) → (Int → PV → (List PV) → R) → R) (ret0 : (List PV) → R) (p80 : PV) (nx : Int × (List PV) → R) : Int × (List PV) → R := (fun s => f60v1_w5b0N k c59 c60v1 c82v1 ret0 (fun n85 l86 => nx (n85, l86)) p80 s.1 s.2)
noncomputable def f60v1_w5N (k : Nat) (c59 : PV → (PV → R) → R) (c60v1 : PV → (List PV) → ((List PV) → R) → R) (c82v1 : (List Int) → (List PV) → (Int → PV → (List PV) → R) → R) (ret0 : (List PV) → R) (p80 : PV) (n85 : Int) (l86 : List PV) : R := loopR (f60v1_w5B k c59 c60v1 c82v1 ret0 p80) k (n85, l86)
theorem f60v1_w5_eq (k : Nat) (c59 : PV → (PV → R) → R) (c60v1 : PV → (List PV) → ((List PV) → R) → R) (c82v1 : (List Int) → (List PV) → (Int → PV → (List PV) → R) → R) (retF : (List PV) → R) (p80 : PV) (n85 : Int) (l86 : List PV) : f60v1_w5A k c59 c60v1 c82v1 retF p80 n85 l86 = f60v1_w5N k c59 c60v1 c82v1 (fun y0 => retF y0) p80 n85 l86 :=
  Eq.mp (by kernel_rfl) (loop_sim (E := (f60v1_E k c59 c60v1 c82v1)) (c := f60v1_cw5) (K := (kont (f60v1_E k c59 c60v1 c82v1) f60v1_code [1, 1, 1, 1, 0, 1, 0] (endK (f60v1_E k c59 c60v1 c82v1) Try.f60 [2000000, 2000001] f60v1_un retF))) (S := Int × (List PV)) (fun s => f60v1_hw5_0 p80 s.1 s.2) (f60v1_w5B k c59 c60v1 c82v1 (fun y0 => retF y0) p80) (fun NX s => by
    exact Eq.mp (by kernel_rfl) (f60v1_w5b0_eq k c59 c60v1 c82v1 retF NX p80 s.1 s.2)) k (n85, l86))

noncomputable def f60v1_cw6 : Code := subC f60v1_code [1, 1, 1, 1, 0, 1, 0, 0]
noncomputable def f60v1_hw6_0 (p98 : PV) (n103 : Int) (l104 : List PV) : St := ⟨[.ptr 2000000 [], .dead, .dead, .dead, .dead, .str [], .dead, .dead, .dead, .dead, .dead, .dead, .dead, .dead, .dead, .dead, .dead, .dead, .dead, .dead, .dead, .dead, .dead, .dead, .dead, .dead, .dead, .dead, .dead, .dead, .dead, .dead, .dead, .dead, .dead, .dead, .dead, .dead, .dead, .dead, .dead, .dead, .dead, .dead, .dead, .dead, .dead, .dead, .dead, .val 28 p98, .int .i64 (List.length (PV.els p98) : Int), .int .i64 n103, .dead, .dead, .dead, .dead, .dead, .dead, .dead, .dead, .dead, .dead, .dead, .dead, .dead, .dead, .dead], [(2000000, .box 76 (.agg 76 [.ptr 2000000 [], .own 43 2000001])), (2000001, .row 5 l104)]⟩
noncomputable def f60v1_w6A (k : Nat) (c59 : PV → (PV → R) → R) (c60v1 : PV → (List PV) → ((List PV) → R) → R) (c82v1 : (List Int) → (List PV) → (Int → PV → (List PV) → R) → R) (retF : (List PV) → R) (p98 : PV) (n103 : Int) (l104 : List PV) : R := loopM (f60v1_E k c59 c60v1 c82v1) f60v1_cw6 (kont (f60v1_E k c59 c60v1 c82v1) f60v1_code [1, 1, 1, 1, 0, 1, 0] (endK (f60v1_E k c59 c60v1 c82v1) Try.f60 [2000000, 2000001] f60v1_un retF)) k (f60v1_hw6_0 p98 n103 l104)
noncomputable def f60v1_w6b0 (c59 : PV → (PV → R) → R) (c60v1 : PV → (List PV) → ((List PV) → R) → R) (c82v1 : (List Int) → (List PV) → (Int → PV → (List PV) → R) → R) (ret0 : (List PV) → R) (next_w6_0 : Int → (List PV) → R) (p98 : PV) (n103 : Int) (l104 : List PV) : R :=
  bif (decide (n103 < (List.length (PV.els p98) : Int))) then
    bif (true && decide ((0 : Int) ≤ n103) && decide (n103 < (List.length (PV.els p98) : Int))) then
      bif (decide ((0 : Int) < n103)) then
        c82v1 [44] l104 fun n105 p106 l107 =>
        c60v1 (List.getD (PV.els p98) (n103).toNat PV.nil) l107 fun l108 =>
        next_w6_0 (IntKind.wrap .i64 (n103 + (1 : Int))) l108
      else c60v1 (List.getD (PV.els p98) (n103).toNat PV.nil) l104 fun l109 =>
      next_w6_0 (IntKind.wrap .i64 (n103 + (1 : Int))) l109
    else none
  else c82v1 [] l104 fun n110 p111 l112 =>
  ret0 l112

theorem f60v1_w6b0_mem (k : Nat) (c59 : PV → (PV → R) → R) (c60v1 : PV → (List PV) → ((List PV) → R) → R) (c82v1 : (List Int) → (List PV) → (Int → PV → (List PV) → R) → R) (retF : (List PV) → R) (NX_w6 : St → R) (p98 : PV) (n103 : Int) (l104 : List PV) : exec (f60v1_E k c59 c60v1 c82v1) f60v1_cw6 (purgeK (f60v1_E k c59 c60v1 c82v1) f60v1_cw6 (loopK NX_w6 (kont (f60v1_E k c59 c60v1 c82v1) f60v1_code [1, 1, 1, 1, 0, 1, 0] (endK (f60v1_E k c59 c60v1 c82v1) Try.f60 [2000000, 2000001] f60v1_un retF)))) (f60v1_hw6_0 p98 n103 l104) = f60v1_w6b0 c59 c60v1 c82v1 (fun y0 => retF y0) (fun n103 l104 => NX_w6 (f60v1_hw6_0 p98 n103 l104)) p98 n103 l104 := by kernel_rfl

noncomputable def f60v1_w6b0N (k : Nat) (c59 : PV → (PV → R) → R) (c60v1 : PV → (List PV) → ((List PV) → R) → R) (c82v1 : (List Int) → (List PV) → (Int → PV → (List PV) → R) → R) (ret0 : (List PV) → R) (next_w6_0 : Int → (List PV) → R) (p98 : PV) (n103 : Int) (l104 : List PV) : R :=
  f60v1_w6b0 c59 c60v1 c82v1 ret0 next_w6_0 p98 n103 l104
theorem f60v1_w6b0_eq (k : Nat) (c59 : PV → (PV → R) → R) (c60v1 : PV → (List PV) → ((List PV) → R) → R) (c82v1 : (List Int) → (List PV) → (Int → PV → (List PV) → R) → R) (retF : (List PV) → R) (NX_w6 : St → R) (p98 : PV) (n103 : Int) (l104 : List PV) : exec (f60v1_E k c59 c60v1 c82v1) f60v1_cw6 (purgeK (f60v1_E k c59 c60v1 c82v1) f60v1_cw6 (loopK NX_w6 (kont (f60v1_E k c59 c60v1 c82v1) f60v1_code [1, 1, 1, 1, 0, 1, 0] (endK (f60v1_E k c59 c60v1 c82v1) Try.f60 [2000000, 2000001] f60v1_un retF)))) (f60v1_hw6_0 p98 n103 l104) = f60v1_w6b0N k c59 c60v1 c82v1 (fun y0 => retF y0) (fun n103 l104 => NX_w6 (f60v1_hw6_0 p98 n103 l104)) p98 n103 l104 :=
  (f60v1_w6b0_mem k c59 c60v1 c82v1 retF NX_w6 p98 n103 l104)

noncomputable def f60v1_w6B (k : Nat) (c59 : PV → (PV → R) → R) (c60v1 : PV → (List PV) → ((List PV) → R) → R) (c82v1 : (List Int) → (List PV) → (Int → PV → (List PV) → R) → R) (ret0 : (List PV) → R) (p98 : PV) (nx : Int × (List PV) → R) : Int × (List PV) → R := (fun s => f60v1_w6b0N k c59 c60v1 c82v1 ret0 (fun n103 l104 => nx (n103, l104)) p98 s.1 s.2)
noncomputable def f60v1_w6N (k : Nat) (c59 : PV → (PV → R) → R) (c60v1 : PV → (List PV) → ((List PV) → R) → R) (c82v1 : (List Int) → (List PV) → (Int → PV → (List PV) → R) → R) (ret0 : (List PV) → R) (p98 : PV) (n103 : Int) (l104 : List PV) : R := loopR (f60v1_w6B k c59 c60v1 c82v1 ret0 p98) k (n103, l104)
theorem f60v1_w6_eq (k : Nat) (c59 : PV → (PV → R) → R) (c60v1 : PV → (List PV) → ((List PV) → R) → R) (c82v1 : (List Int) → (List PV) → (Int → PV → (List PV) → R) → R) (retF : (List PV) → R) (p98 : PV) (n103 : Int) (l104 : List PV) : f60v1_w6A k c59 c60v1 c82v1 retF p98 n103 l104 = f60v1_w6N k c59 c60v1 c82v1 (fun y0 => retF y0) p98 n103 l104 :=
  Eq.mp (by kernel_rfl) (loop_sim (E := (f60v1_E k c59 c60v1 c82v1)) (c := f60v1_cw6) (K := (kont (f60v1_E k c59 c60v1 c82v1) f60v1_code [1, 1, 1, 1, 0, 1, 0] (endK (f60v1_E k c59 c60v1 c82v1) Try.f60 [2000000, 2000001] f60v1_un retF))) (S := Int × (List PV)) (fun s => f60v1_hw6_0 p98 s.1 s.2) (f60v1_w6B k c59 c60v1 c82v1 (fun y0 => retF y0) p98) (fun NX s => by
    exact Eq.mp (by kernel_rfl) (f60v1_w6b0_eq k c59 c60v1 c82v1 retF NX p98 s.1 s.2)) k (n103, l104))

noncomputable def f60v1_cw7 : Code := subC f60v1_code [1, 1, 1, 1, 0, 1, 0, 0]
noncomputable def f60v1_hw7_0 (p116 : PV) (n121 : Int) (l122 : List PV) : St := ⟨[.ptr 2000000 [], .dead, .dead, .dead, .dead, .str [93], .dead, .dead, .dead, .dead, .dead, .dead, .dead, .dead, .dead, .dead, .dead, .dead, .dead, .dead, .dead, .dead, .dead, .dead, .dead, .dead, .dead, .dead, .dead, .dead, .dead, .dead, .dead, .dead, .dead, .dead, .dead, .dead, .dead, .dead, .dead, .dead, .dead, .dead, .dead, .dead, .dead, .dead, .dead, .val 28 p116, .int .i64 (List.length (PV.els p116) : Int), .int .i64 n121, .dead, .dead, .dead, .dead, .dead, .dead, .dead, .dead, .dead, .dead, .dead, .dead, .dead, .dead, .dead], [(2000000, .box 76 (.agg 76 [.ptr 2000000 [], .own 43 2000001])), (2000001, .row 5 l122)]⟩
noncomputable def f60v1_w7A (k : Nat) (c59 : PV → (PV → R) → R) (c60v1 : PV → (List PV) → ((List PV) → R) → R) (c82v1 : (List Int) → (List PV) → (Int → PV → (List PV) → R) → R) (retF : (List PV) → R) (p116 : PV) (n121 : Int) (l122 : List PV) : R := loopM (f60v1_E k c59 c60v1 c82v1) f60v1_cw7 (kont (f60v1_E k c59 c60v1 c82v1) f60v1_code [1, 1, 1, 1, 0, 1, 0] (endK (f60v1_E k c59 c60v1 c82v1) Try.f60 [2000000, 2000001] f60v1_un retF)) k (f60v1_hw7_0 p116 n121 l122)
noncomputable def f60v1_w7b0 (c59 : PV → (PV → R) → R) (c60v1 : PV → (List PV) → ((List PV) → R) → R) (c82v1 : (List Int) → (List PV) → (Int → PV → (List PV) → R) → R) (ret0 : (List PV) → R) (next_w7_0 : Int → (List PV) → R) (p116 : PV) (n121 : Int) (l122 : List PV) : R :=
  bif (decide (n121 < (List.length (PV.els p116) : Int))) then
    bif (true && decide ((0 : Int) ≤ n121) && decide (n121 < (List.length (PV.els p116) : Int))) then
      bif (decide ((0 : Int) < n121)) then
        c82v1 [44] l122 fun n123 p124 l125 =>
        c60v1 (List.getD (PV.els p116) (n121).toNat PV.nil) l125 fun l126 =>
        next_w7_0 (IntKind.wrap .i64 (n121 + (1 : Int))) l126
      else c60v1 (List.getD (PV.els p116) (n121).toNat PV.nil) l122 fun l127 =>
      next_w7_0 (IntKind.wrap .i64 (n121 + (1 : Int))) l127
    else none
  else c82v1 [93] l122 fun n128 p129 l130 =>
  ret0 l130

theorem f60v1_w7b0_mem (k : Nat) (c59 : PV → (PV → R) → R) (c60v1 : PV → (List PV) → ((List PV) → R) → R) (c82v1 : (List Int) → (List PV) → (Int → PV → (List PV) → R) → R) (retF : (List PV) → R) (NX_w7 : St → R) (p116 : PV) (n121 : Int) (l122 : List PV) : exec (f60v1_E k c59 c60v1 c82v1) f60v1_cw7 (purgeK (f60v1_E k c59 c60v1 c82v1) f60v1_cw7 (loopK NX_w7 (kont (f60v1_E k c59 c60v1 c82v1) f60v1_code [1, 1, 1, 1, 0, 1, 0] (endK (f60v1_E k c59 c60v1 c82v1) Try.f60 [2000000, 2000001] f60v1_un retF)))) (f60v1_hw7_0 p116 n121 l122) = f60v1_w7b0 c59 c60v1 c82v1 (fun y0 => retF y0) (fun n121 l122 => NX_w7 (f60v1_hw7_0 p116 n121 l122)) p116 n121 l122 := by kernel_rfl

noncomputable def f60v1_w7b0N (k : Nat) (c59 : PV → (PV → R) → R) (c60v1 : PV → (List PV) → ((List PV) → R) → R) (c82v1 : (List Int) → (List PV) → (Int → PV → (List PV) → R) → R) (ret0 : (List PV) → R) (next_w7_0 : Int → (List PV) → R) (p116 : PV) (n121 : Int) (l122 : List PV) : R :=
  f60v1_w7b0 c59 c60v1 c82v1 ret0 next_w7_0 p116 n121 l122
theorem f60v1_w7b0_eq (k : Nat) (c59 : PV → (PV → R) → R) (c60v1 : PV → (List PV) → ((List PV) → R) → R) (c82v1 : (List Int) → (List PV) → (Int → PV → (List PV) → R) → R) (retF : (List PV) → R) (NX_w7 : St → R) (p116 : PV) (n121 : Int) (l122 : List PV) : exec (f60v1_E k c59 c60v1 c82v1) f60v1_cw7 (purgeK (f60v1_E k c59 c60v1 c82v1) f60v1_cw7 (loopK NX_w7 (kont (f60v1_E k c59 c60v1 c82v1) f60v1_code [1, 1, 1, 1, 0, 1, 0] (endK (f60v1_E k c59 c60v1 c82v1) Try.f60 [2000000, 2000001] f60v1_un retF)))) (f60v1_hw7_0 p116 n121 l122) = f60v1_w7b0N k c59 c60v1 c82v1 (fun y0 => retF y0) (fun n121 l122 => NX_w7 (f60v1_hw7_0 p116 n121 l122)) p116 n121 l122 :=
  (f60v1_w7b0_mem k c59 c60v1 c82v1 retF NX_w7 p116 n121 l122)

noncomputable def f60v1_w7B (k : Nat) (c59 : PV → (PV → R) → R) (c60v1 : PV → (List PV) → ((List PV) → R) → R) (c82v1 : (List Int) → (List PV) → (Int → PV → (List PV) → R) → R) (ret0 : (List PV) → R) (p116 : PV) (nx : Int × (List PV) → R) : Int × (List PV) → R := (fun s => f60v1_w7b0N k c59 c60v1 c82v1 ret0 (fun n121 l122 => nx (n121, l122)) p116 s.1 s.2)
noncomputable def f60v1_w7N (k : Nat) (c59 : PV → (PV → R) → R) (c60v1 : PV → (List PV) → ((List PV) → R) → R) (c82v1 : (List Int) → (List PV) → (Int → PV → (List PV) → R) → R) (ret0 : (List PV) → R) (p116 : PV) (n121 : Int) (l122 : List PV) : R := loopR (f60v1_w7B k c59 c60v1 c82v1 ret0 p116) k (n121, l122)
theorem f60v1_w7_eq (k : Nat) (c59 : PV → (PV → R) → R) (c60v1 : PV → (List PV) → ((List PV) → R) → R) (c82v1 : (List Int) → (List PV) → (Int → PV → (List PV) → R) → R) (retF : (List PV) → R) (p116 : PV) (n121 : Int) (l122 : List PV) : f60v1_w7A k c59 c60v1 c82v1 retF p116 n121 l122 = f60v1_w7N k c59 c60v1 c82v1 (fun y0 => retF y0) p116 n121 l122 :=
  Eq.mp (by kernel_rfl) (loop_sim (E := (f60v1_E k c59 c60v1 c82v1)) (c := f60v1_cw7) (K := (kont (f60v1_E k c59 c60v1 c82v1) f60v1_code [1, 1, 1, 1, 0, 1, 0] (endK (f60v1_E k c59 c60v1 c82v1) Try.f60 [2000000, 2000001] f60v1_un retF))) (S := Int × (List PV)) (fun s => f60v1_hw7_0 p116 s.1 s.2) (f60v1_w7B k c59 c60v1 c82v1 (fun y0 => retF y0) p116) (fun NX s => by
    exact Eq.mp (by kernel_rfl) (f60v1_w7b0_eq k c59 c60v1 c82v1 retF NX p116 s.1 s.2)) k (n121, l122))

noncomputable def f60v1_cw8 : Code := subC f60v1_code [1, 1, 1, 1, 0, 1, 0, 0]
noncomputable def f60v1_hw8_0 (p134 : PV) (n139 : Int) (l140 : List PV) : St := ⟨[.ptr 2000000 [], .dead, .dead, .dead, .dead, .str [62], .dead, .dead, .dead, .dead, .dead, .dead, .dead, .dead, .dead, .dead, .dead, .dead, .dead, .dead, .dead, .dead, .dead, .dead, .dead, .dead, .dead, .dead, .dead, .dead, .dead, .dead, .dead, .dead, .dead, .dead, .dead, .dead, .dead, .dead, .dead, .dead, .dead, .dead, .dead, .dead, .dead, .dead, .dead, .val 28 p134, .int .i64 (List.length (PV.els p134) : Int), .int .i64 n139, .dead, .dead, .dead, .dead, .dead, .dead, .dead, .dead, .dead, .dead, .dead, .dead, .dead, .dead, .dead], [(2000000, .box 76 (.agg 76 [.ptr 2000000 [], .own 43 2000001])), (2000001, .row 5 l140)]⟩
noncomputable def f60v1_w8A (k : Nat) (c59 : PV → (PV → R) → R) (c60v1 : PV → (List PV) → ((List PV) → R) → R) (c82v1 : (List Int) → (List PV) → (Int → PV → (List PV) → R) → R) (retF : (List PV) → R) (p134 : PV) (n139 : Int) (l140 : List PV) : R := loopM (f60v1_E k c59 c60v1 c82v1) f60v1_cw8 (kont (f60v1_E k c59 c60v1 c82v1) f60v1_code [1, 1, 1, 1, 0, 1, 0] (endK (f60v1_E k c59 c60v1 c82v1) Try.f60 [2000000, 2000001] f60v1_un retF)) k (f60v1_hw8_0 p134 n139 l140)
noncomputable def f60v1_w8b0 (c59 : PV → (PV → R) → R) (c60v1 : PV → (List PV) → ((List PV) → R) → R) (c82v1 : (List Int) → (List PV) → (Int → PV → (List PV) → R) → R) (ret0 : (List PV) → R) (next_w8_0 : Int → (List PV) → R) (p134 : PV) (n139 : Int) (l140 : List PV) : R :=
  bif (decide (n139 < (List.length (PV.els p134) : Int))) then
    bif (true && decide ((0 : Int) ≤ n139) && decide (n139 < (List.length (PV.els p134) : Int))) then
      bif (decide ((0 : Int) < n139)) then
        c82v1 [44] l140 fun n141 p142 l143 =>
        c60v1 (List.getD (PV.els p134) (n139).toNat PV.nil) l143 fun l144 =>
        next_w8_0 (IntKind.wrap .i64 (n139 + (1 : Int))) l144
      else c60v1 (List.getD (PV.els p134) (n139).toNat PV.nil) l140 fun l145 =>
      next_w8_0 (IntKind.wrap .i64 (n139 + (1 : Int))) l145
    else none
  else c82v1 [62] l140 fun n146 p147 l148 =>
  ret0 l148

theorem f60v1_w8b0_mem (k : Nat) (c59 : PV → (PV → R) → R) (c60v1 : PV → (List PV) → ((List PV) → R) → R) (c82v1 : (List Int) → (List PV) → (Int → PV → (List PV) → R) → R) (retF : (List PV) → R) (NX_w8 : St → R) (p134 : PV) (n139 : Int) (l140 : List PV) : exec (f60v1_E k c59 c60v1 c82v1) f60v1_cw8 (purgeK (f60v1_E k c59 c60v1 c82v1) f60v1_cw8 (loopK NX_w8 (kont (f60v1_E k c59 c60v1 c82v1) f60v1_code [1, 1, 1, 1, 0, 1, 0] (endK (f60v1_E k c59 c60v1 c82v1) Try.f60 [2000000, 2000001] f60v1_un retF)))) (f60v1_hw8_0 p134 n139 l140) = f60v1_w8b0 c59 c60v1 c82v1 (fun y0 => retF y0) (fun n139 l140 => NX_w8 (f60v1_hw8_0 p134 n139 l140)) p134 n139 l140 := by kernel_rfl

noncomputable def f60v1_w8b0N (k : Nat) (c59 : PV → (PV → R) → R) (c60v1 : PV → (List PV) → ((List PV) → R) → R) (c82v1 : (List Int) → (List PV) → (Int → PV → (List PV) → R) → R) (ret0 : (List PV) → R) (next_w8_0 : Int → (List PV) → R) (p134 : PV) (n139 : Int) (l140 : List PV) : R :=
  f60v1_w8b0 c59 c60v1 c82v1 ret0 next_w8_0 p134 n139 l140
theorem f60v1_w8b0_eq (k : Nat) (c59 : PV → (PV → R) → R) (c60v1 : PV → (List PV) → ((List PV) → R) → R) (c82v1 : (List Int) → (List PV) → (Int → PV → (List PV) → R) → R) (retF : (List PV) → R) (NX_w8 : St → R) (p134 : PV) (n139 : Int) (l140 : List PV) : exec (f60v1_E k c59 c60v1 c82v1) f60v1_cw8 (purgeK (f60v1_E k c59 c60v1 c82v1) f60v1_cw8 (loopK NX_w8 (kont (f60v1_E k c59 c60v1 c82v1) f60v1_code [1, 1, 1, 1, 0, 1, 0] (endK (f60v1_E k c59 c60v1 c82v1) Try.f60 [2000000, 2000001] f60v1_un retF)))) (f60v1_hw8_0 p134 n139 l140) = f60v1_w8b0N k c59 c60v1 c82v1 (fun y0 => retF y0) (fun n139 l140 => NX_w8 (f60v1_hw8_0 p134 n139 l140)) p134 n139 l140 :=
  (f60v1_w8b0_mem k c59 c60v1 c82v1 retF NX_w8 p134 n139 l140)

noncomputable def f60v1_w8B (k : Nat) (c59 : PV → (PV → R) → R) (c60v1 : PV → (List PV) → ((List PV) → R) → R) (c82v1 : (List Int) → (List PV) → (Int → PV → (List PV) → R) → R) (ret0 : (List PV) → R) (p134 : PV) (nx : Int × (List PV) → R) : Int × (List PV) → R := (fun s => f60v1_w8b0N k c59 c60v1 c82v1 ret0 (fun n139 l140 => nx (n139, l140)) p134 s.1 s.2)
noncomputable def f60v1_w8N (k : Nat) (c59 : PV → (PV → R) → R) (c60v1 : PV → (List PV) → ((List PV) → R) → R) (c82v1 : (List Int) → (List PV) → (Int → PV → (List PV) → R) → R) (ret0 : (List PV) → R) (p134 : PV) (n139 : Int) (l140 : List PV) : R := loopR (f60v1_w8B k c59 c60v1 c82v1 ret0 p134) k (n139, l140)
theorem f60v1_w8_eq (k : Nat) (c59 : PV → (PV → R) → R) (c60v1 : PV → (List PV) → ((List PV) → R) → R) (c82v1 : (List Int) → (List PV) → (Int → PV → (List PV) → R) → R) (retF : (List PV) → R) (p134 : PV) (n139 : Int) (l140 : List PV) : f60v1_w8A k c59 c60v1 c82v1 retF p134 n139 l140 = f60v1_w8N k c59 c60v1 c82v1 (fun y0 => retF y0) p134 n139 l140 :=
  Eq.mp (by kernel_rfl) (loop_sim (E := (f60v1_E k c59 c60v1 c82v1)) (c := f60v1_cw8) (K := (kont (f60v1_E k c59 c60v1 c82v1) f60v1_code [1, 1, 1, 1, 0, 1, 0] (endK (f60v1_E k c59 c60v1 c82v1) Try.f60 [2000000, 2000001] f60v1_un retF))) (S := Int × (List PV)) (fun s => f60v1_hw8_0 p134 s.1 s.2) (f60v1_w8B k c59 c60v1 c82v1 (fun y0 => retF y0) p134) (fun NX s => by
    exact Eq.mp (by kernel_rfl) (f60v1_w8b0_eq k c59 c60v1 c82v1 retF NX p134 s.1 s.2)) k (n139, l140))

noncomputable def f60v1_cw9 : Code := subC f60v1_code [1, 1, 1, 1, 0, 1, 0, 0]
noncomputable def f60v1_hw9_0 (p152 : PV) (n157 : Int) (l158 : List PV) : St := ⟨[.ptr 2000000 [], .dead, .dead, .dead, .dead, .str [], .dead, .dead, .dead, .dead, .dead, .dead, .dead, .dead, .dead, .dead, .dead, .dead, .dead, .dead, .dead, .dead, .dead, .dead, .dead, .dead, .dead, .dead, .dead, .dead, .dead, .dead, .dead, .dead, .dead, .dead, .dead, .dead, .dead, .dead, .dead, .dead, .dead, .dead, .dead, .dead, .dead, .dead, .dead, .val 28 p152, .int .i64 (List.length (PV.els p152) : Int), .int .i64 n157, .dead, .dead, .dead, .dead, .dead, .dead, .dead, .dead, .dead, .dead, .dead, .dead, .dead, .dead, .dead], [(2000000, .box 76 (.agg 76 [.ptr 2000000 [], .own 43 2000001])), (2000001, .row 5 l158)]⟩
noncomputable def f60v1_w9A (k : Nat) (c59 : PV → (PV → R) → R) (c60v1 : PV → (List PV) → ((List PV) → R) → R) (c82v1 : (List Int) → (List PV) → (Int → PV → (List PV) → R) → R) (retF : (List PV) → R) (p152 : PV) (n157 : Int) (l158 : List PV) : R := loopM (f60v1_E k c59 c60v1 c82v1) f60v1_cw9 (kont (f60v1_E k c59 c60v1 c82v1) f60v1_code [1, 1, 1, 1, 0, 1, 0] (endK (f60v1_E k c59 c60v1 c82v1) Try.f60 [2000000, 2000001] f60v1_un retF)) k (f60v1_hw9_0 p152 n157 l158)
noncomputable def f60v1_w9b0 (c59 : PV → (PV → R) → R) (c60v1 : PV → (List PV) → ((List PV) → R) → R) (c82v1 : (List Int) → (List PV) → (Int → PV → (List PV) → R) → R) (ret0 : (List PV) → R) (next_w9_0 : Int → (List PV) → R) (p152 : PV) (n157 : Int) (l158 : List PV) : R :=
  bif (decide (n157 < (List.length (PV.els p152) : Int))) then
    bif (true && decide ((0 : Int) ≤ n157) && decide (n157 < (List.length (PV.els p152) : Int))) then
      bif (decide ((0 : Int) < n157)) then
        c82v1 [44] l158 fun n159 p160 l161 =>
        c60v1 (List.getD (PV.els p152) (n157).toNat PV.nil) l161 fun l162 =>
        next_w9_0 (IntKind.wrap .i64 (n157 + (1 : Int))) l162
      else c60v1 (List.getD (PV.els p152) (n157).toNat PV.nil) l158 fun l163 =>
      next_w9_0 (IntKind.wrap .i64 (n157 + (1 : Int))) l163
    else none
  else c82v1 [] l158 fun n164 p165 l166 =>
  ret0 l166

theorem f60v1_w9b0_mem (k : Nat) (c59 : PV → (PV → R) → R) (c60v1 : PV → (List PV) → ((List PV) → R) → R) (c82v1 : (List Int) → (List PV) → (Int → PV → (List PV) → R) → R) (retF : (List PV) → R) (NX_w9 : St → R) (p152 : PV) (n157 : Int) (l158 : List PV) : exec (f60v1_E k c59 c60v1 c82v1) f60v1_cw9 (purgeK (f60v1_E k c59 c60v1 c82v1) f60v1_cw9 (loopK NX_w9 (kont (f60v1_E k c59 c60v1 c82v1) f60v1_code [1, 1, 1, 1, 0, 1, 0] (endK (f60v1_E k c59 c60v1 c82v1) Try.f60 [2000000, 2000001] f60v1_un retF)))) (f60v1_hw9_0 p152 n157 l158) = f60v1_w9b0 c59 c60v1 c82v1 (fun y0 => retF y0) (fun n157 l158 => NX_w9 (f60v1_hw9_0 p152 n157 l158)) p152 n157 l158 := by kernel_rfl

noncomputable def f60v1_w9b0N (k : Nat) (c59 : PV → (PV → R) → R) (c60v1 : PV → (List PV) → ((List PV) → R) → R) (c82v1 : (List Int) → (List PV) → (Int → PV → (List PV) → R) → R) (ret0 : (List PV) → R) (next_w9_0 : Int → (List PV) → R) (p152 : PV) (n157 : Int) (l158 : List PV) : R :=
  f60v1_w9b0 c59 c60v1 c82v1 ret0 next_w9_0 p152 n157 l158
theorem f60v1_w9b0_eq (k : Nat) (c59 : PV → (PV → R) → R) (c60v1 : PV → (List PV) → ((List PV) → R) → R) (c82v1 : (List Int) → (List PV) → (Int → PV → (List PV) → R) → R) (retF : (List PV) → R) (NX_w9 : St → R) (p152 : PV) (n157 : Int) (l158 : List PV) : exec (f60v1_E k c59 c60v1 c82v1) f60v1_cw9 (purgeK (f60v1_E k c59 c60v1 c82v1) f60v1_cw9 (loopK NX_w9 (kont (f60v1_E k c59 c60v1 c82v1) f60v1_code [1, 1, 1, 1, 0, 1, 0] (endK (f60v1_E k c59 c60v1 c82v1) Try.f60 [2000000, 2000001] f60v1_un retF)))) (f60v1_hw9_0 p152 n157 l158) = f60v1_w9b0N k c59 c60v1 c82v1 (fun y0 => retF y0) (fun n157 l158 => NX_w9 (f60v1_hw9_0 p152 n157 l158)) p152 n157 l158 :=
  (f60v1_w9b0_mem k c59 c60v1 c82v1 retF NX_w9 p152 n157 l158)

noncomputable def f60v1_w9B (k : Nat) (c59 : PV → (PV → R) → R) (c60v1 : PV → (List PV) → ((List PV) → R) → R) (c82v1 : (List Int) → (List PV) → (Int → PV → (List PV) → R) → R) (ret0 : (List PV) → R) (p152 : PV) (nx : Int × (List PV) → R) : Int × (List PV) → R := (fun s => f60v1_w9b0N k c59 c60v1 c82v1 ret0 (fun n157 l158 => nx (n157, l158)) p152 s.1 s.2)
noncomputable def f60v1_w9N (k : Nat) (c59 : PV → (PV → R) → R) (c60v1 : PV → (List PV) → ((List PV) → R) → R) (c82v1 : (List Int) → (List PV) → (Int → PV → (List PV) → R) → R) (ret0 : (List PV) → R) (p152 : PV) (n157 : Int) (l158 : List PV) : R := loopR (f60v1_w9B k c59 c60v1 c82v1 ret0 p152) k (n157, l158)
theorem f60v1_w9_eq (k : Nat) (c59 : PV → (PV → R) → R) (c60v1 : PV → (List PV) → ((List PV) → R) → R) (c82v1 : (List Int) → (List PV) → (Int → PV → (List PV) → R) → R) (retF : (List PV) → R) (p152 : PV) (n157 : Int) (l158 : List PV) : f60v1_w9A k c59 c60v1 c82v1 retF p152 n157 l158 = f60v1_w9N k c59 c60v1 c82v1 (fun y0 => retF y0) p152 n157 l158 :=
  Eq.mp (by kernel_rfl) (loop_sim (E := (f60v1_E k c59 c60v1 c82v1)) (c := f60v1_cw9) (K := (kont (f60v1_E k c59 c60v1 c82v1) f60v1_code [1, 1, 1, 1, 0, 1, 0] (endK (f60v1_E k c59 c60v1 c82v1) Try.f60 [2000000, 2000001] f60v1_un retF))) (S := Int × (List PV)) (fun s => f60v1_hw9_0 p152 s.1 s.2) (f60v1_w9B k c59 c60v1 c82v1 (fun y0 => retF y0) p152) (fun NX s => by
    exact Eq.mp (by kernel_rfl) (f60v1_w9b0_eq k c59 c60v1 c82v1 retF NX p152 s.1 s.2)) k (n157, l158))

noncomputable def f60v1_e (c59 : PV → (PV → R) → R) (c60v1 : PV → (List PV) → ((List PV) → R) → R) (c82v1 : (List Int) → (List PV) → (Int → PV → (List PV) → R) → R) (ret0 : (List PV) → R) (w1 : PV → Int → (List PV) → R) (w2 : PV → Int → (List PV) → R) (w3 : PV → Int → (List PV) → R) (w4 : PV → Int → (List PV) → R) (w5 : PV → Int → (List PV) → R) (w6 : PV → Int → (List PV) → R) (w7 : PV → Int → (List PV) → R) (w8 : PV → Int → (List PV) → R) (w9 : PV → Int → (List PV) → R) (p1 : PV) (l2 : List PV) : R :=
  bif (decide ((PV.num (PV.fld p1 0)) = (1 : Int))) then
    c82v1 [69] l2 fun n3 p4 l5 =>
    c59 p1 fun p6 =>
    w1 p6 0 l5
  else bif (decide ((PV.num (PV.fld p1 0)) = (2 : Int))) then
    bif (decide ((0 : Int) ≤ (Int.fdiv (PV.num (PV.fld p1 1)) (2 ^ (min ((4 : Int)).toNat 8)))) && decide ((Int.fdiv (PV.num (PV.fld p1 1)) (2 ^ (min ((4 : Int)).toNat 8))) ≤ (IntKind.wrap .u8 ((Int.fdiv (PV.num (PV.fld p1 1)) (2 ^ (min ((4 : Int)).toNat 8))) + (1 : Int)))) && decide ((IntKind.wrap .u8 ((Int.fdiv (PV.num (PV.fld p1 1)) (2 ^ (min ((4 : Int)).toNat 8))) + (1 : Int))) ≤ (List.length [48, 49, 50, 51, 52, 53, 54, 55, 56, 57, 97, 98, 99, 100, 101, 102] : Int))) then
      let s21 : List Int := (List.drop ((Int.fdiv (PV.num (PV.fld p1 1)) (2 ^ (min ((4 : Int)).toNat 8)))).toNat (List.take ((IntKind.wrap .u8 ((Int.fdiv (PV.num (PV.fld p1 1)) (2 ^ (min ((4 : Int)).toNat 8))) + (1 : Int)))).toNat [48, 49, 50, 51, 52, 53, 54, 55, 56, 57, 97, 98, 99, 100, 101, 102]))
      bif (decide ((0 : Int) ≤ (intBit .and .u8 (PV.num (PV.fld p1 1)) 15)) && decide ((intBit .and .u8 (PV.num (PV.fld p1 1)) 15) ≤ (IntKind.wrap .u8 ((intBit .and .u8 (PV.num (PV.fld p1 1)) 15) + (1 : Int)))) && decide ((IntKind.wrap .u8 ((intBit .and .u8 (PV.num (PV.fld p1 1)) 15) + (1 : Int))) ≤ (List.length [48, 49, 50, 51, 52, 53, 54, 55, 56, 57, 97, 98, 99, 100, 101, 102] : Int))) then
        let s22 : List Int := (List.drop ((intBit .and .u8 (PV.num (PV.fld p1 1)) 15)).toNat (List.take ((IntKind.wrap .u8 ((intBit .and .u8 (PV.num (PV.fld p1 1)) 15) + (1 : Int)))).toNat [48, 49, 50, 51, 52, 53, 54, 55, 56, 57, 97, 98, 99, 100, 101, 102]))
        bif (decide (List.length s21 + List.length s22 ≤ 4611686018427387904)) then
          c82v1 (s21 ++ s22) l2 fun n23 p24 l25 =>
          c59 p1 fun p26 =>
          w2 p26 0 l25
        else none
      else none
    else none
  else bif (decide ((PV.num (PV.fld p1 0)) = (3 : Int))) then
    bif (decide ((List.length (PV.els (PV.fld p1 2)) : Int) < (2 : Int))) then
      c82v1 [40] l2 fun n41 p42 l43 =>
      c59 p1 fun p44 =>
      w3 p44 0 l43
    else c82v1 [40] l2 fun n59 p60 l61 =>
    c59 p1 fun p62 =>
    w4 p62 0 l61
  else bif (decide ((PV.num (PV.fld p1 0)) = (4 : Int))) then
    c82v1 [76] l2 fun n77 p78 l79 =>
    c59 p1 fun p80 =>
    w5 p80 0 l79
  else bif (decide ((PV.num (PV.fld p1 0)) = (5 : Int))) then
    c82v1 [82] l2 fun n95 p96 l97 =>
    c59 p1 fun p98 =>
    w6 p98 0 l97
  else bif (decide ((PV.num (PV.fld p1 0)) = (6 : Int))) then
    c82v1 [91] l2 fun n113 p114 l115 =>
    c59 p1 fun p116 =>
    w7 p116 0 l115
  else bif (decide ((PV.num (PV.fld p1 0)) = (7 : Int))) then
    c82v1 [60] l2 fun n131 p132 l133 =>
    c59 p1 fun p134 =>
    w8 p134 0 l133
  else c82v1 [63] l2 fun n149 p150 l151 =>
  c59 p1 fun p152 =>
  w9 p152 0 l151

theorem f60v1_e_mem (k : Nat) (c59 : PV → (PV → R) → R) (c60v1 : PV → (List PV) → ((List PV) → R) → R) (c82v1 : (List Int) → (List PV) → (Int → PV → (List PV) → R) → R) (retF : (List PV) → R) (p1 : PV) (l2 : List PV) : exec (f60v1_E k c59 c60v1 c82v1) f60v1_code (endK (f60v1_E k c59 c60v1 c82v1) Try.f60 [2000000, 2000001] f60v1_un retF) ⟨[.ptr 2000000 [], .val 30 p1, .undef, .undef, .undef, .undef, .undef, .undef, .undef, .undef, .undef, .undef, .undef, .undef, .undef, .undef, .undef, .undef, .undef, .undef, .undef, .undef, .undef, .undef, .undef, .undef, .undef, .undef, .undef, .undef, .undef, .undef, .undef, .undef, .undef, .undef, .undef, .undef, .undef, .undef, .undef, .undef, .undef, .undef, .undef, .undef, .undef, .undef, .undef, .undef, .undef, .undef, .undef, .undef, .undef, .undef, .undef, .undef, .undef, .undef, .undef, .undef, .undef, .undef, .undef, .undef, .undef], [(2000000, .box 76 (.agg 76 [.ptr 2000000 [], .own 43 2000001])), (2000001, .row 5 l2)]⟩ = f60v1_e c59 c60v1 c82v1 (fun y0 => retF y0) (fun p6 n11 l12 => f60v1_w1A k c59 c60v1 c82v1 retF p6 n11 l12) (fun p26 n31 l32 => f60v1_w2A k c59 c60v1 c82v1 retF p26 n31 l32) (fun p44 n49 l50 => f60v1_w3A k c59 c60v1 c82v1 retF p44 n49 l50) (fun p62 n67 l68 => f60v1_w4A k c59 c60v1 c82v1 retF p62 n67 l68) (fun p80 n85 l86 => f60v1_w5A k c59 c60v1 c82v1 retF p80 n85 l86) (fun p98 n103 l104 => f60v1_w6A k c59 c60v1 c82v1 retF p98 n103 l104) (fun p116 n121 l122 => f60v1_w7A k c59 c60v1 c82v1 retF p116 n121 l122) (fun p134 n139 l140 => f60v1_w8A k c59 c60v1 c82v1 retF p134 n139 l140) (fun p152 n157 l158 => f60v1_w9A k c59 c60v1 c82v1 retF p152 n157 l158) p1 l2 := by kernel_rfl

noncomputable def f60v1_N (k : Nat) (c59 : PV → (PV → R) → R) (c60v1 : PV → (List PV) → ((List PV) → R) → R) (c82v1 : (List Int) → (List PV) → (Int → PV → (List PV) → R) → R) (ret0 : (List PV) → R) (p1 : PV) (l2 : List PV) : R :=
  f60v1_e c59 c60v1 c82v1 ret0 (fun p6 n11 l12 => f60v1_w1N k c59 c60v1 c82v1 ret0 p6 n11 l12) (fun p26 n31 l32 => f60v1_w2N k c59 c60v1 c82v1 ret0 p26 n31 l32) (fun p44 n49 l50 => f60v1_w3N k c59 c60v1 c82v1 ret0 p44 n49 l50) (fun p62 n67 l68 => f60v1_w4N k c59 c60v1 c82v1 ret0 p62 n67 l68) (fun p80 n85 l86 => f60v1_w5N k c59 c60v1 c82v1 ret0 p80 n85 l86) (fun p98 n103 l104 => f60v1_w6N k c59 c60v1 c82v1 ret0 p98 n103 l104) (fun p116 n121 l122 => f60v1_w7N k c59 c60v1 c82v1 ret0 p116 n121 l122) (fun p134 n139 l140 => f60v1_w8N k c59 c60v1 c82v1 ret0 p134 n139 l140) (fun p152 n157 l158 => f60v1_w9N k c59 c60v1 c82v1 ret0 p152 n157 l158) p1 l2
theorem f60v1_eq (k : Nat) (c59 : PV → (PV → R) → R) (c60v1 : PV → (List PV) → ((List PV) → R) → R) (c82v1 : (List Int) → (List PV) → (Int → PV → (List PV) → R) → R) (retF : (List PV) → R) (p1 : PV) (l2 : List PV) : exec (f60v1_E k c59 c60v1 c82v1) f60v1_code (endK (f60v1_E k c59 c60v1 c82v1) Try.f60 [2000000, 2000001] f60v1_un retF) ⟨[.ptr 2000000 [], .val 30 p1, .undef, .undef, .undef, .undef, .undef, .undef, .undef, .undef, .undef, .undef, .undef, .undef, .undef, .undef, .undef, .undef, .undef, .undef, .undef, .undef, .undef, .undef, .undef, .undef, .undef, .undef, .undef, .undef, .undef, .undef, .undef, .undef, .undef, .undef, .undef, .undef, .undef, .undef, .undef, .undef, .undef, .undef, .undef, .undef, .undef, .undef, .undef, .undef, .undef, .undef, .undef, .undef, .undef, .undef, .undef, .undef, .undef, .undef, .undef, .undef, .undef, .undef, .undef, .undef, .undef], [(2000000, .box 76 (.agg 76 [.ptr 2000000 [], .own 43 2000001])), (2000001, .row 5 l2)]⟩ = f60v1_N k c59 c60v1 c82v1 (fun y0 => retF y0) p1 l2 :=
  (f60v1_e_mem k c59 c60v1 c82v1 retF p1 l2).trans (by rw [show (fun p6 n11 l12 => f60v1_w1A k c59 c60v1 c82v1 retF p6 n11 l12) = (fun p6 n11 l12 => f60v1_w1N k c59 c60v1 c82v1 (fun y0 => retF y0) p6 n11 l12) from funext fun p6 => funext fun n11 => funext fun l12 => f60v1_w1_eq k c59 c60v1 c82v1 retF p6 n11 l12, show (fun p26 n31 l32 => f60v1_w2A k c59 c60v1 c82v1 retF p26 n31 l32) = (fun p26 n31 l32 => f60v1_w2N k c59 c60v1 c82v1 (fun y0 => retF y0) p26 n31 l32) from funext fun p26 => funext fun n31 => funext fun l32 => f60v1_w2_eq k c59 c60v1 c82v1 retF p26 n31 l32, show (fun p44 n49 l50 => f60v1_w3A k c59 c60v1 c82v1 retF p44 n49 l50) = (fun p44 n49 l50 => f60v1_w3N k c59 c60v1 c82v1 (fun y0 => retF y0) p44 n49 l50) from funext fun p44 => funext fun n49 => funext fun l50 => f60v1_w3_eq k c59 c60v1 c82v1 retF p44 n49 l50, show (fun p62 n67 l68 => f60v1_w4A k c59 c60v1 c82v1 retF p62 n67 l68) = (fun p62 n67 l68 => f60v1_w4N k c59 c60v1 c82v1 (fun y0 => retF y0) p62 n67 l68) from funext fun p62 => funext fun n67 => funext fun l68 => f60v1_w4_eq k c59 c60v1 c82v1 retF p62 n67 l68, show (fun p80 n85 l86 => f60v1_w5A k c59 c60v1 c82v1 retF p80 n85 l86) = (fun p80 n85 l86 => f60v1_w5N k c59 c60v1 c82v1 (fun y0 => retF y0) p80 n85 l86) from funext fun p80 => funext fun n85 => funext fun l86 => f60v1_w5_eq k c59 c60v1 c82v1 retF p80 n85 l86, show (fun p98 n103 l104 => f60v1_w6A k c59 c60v1 c82v1 retF p98 n103 l104) = (fun p98 n103 l104 => f60v1_w6N k c59 c60v1 c82v1 (fun y0 => retF y0) p98 n103 l104) from funext fun p98 => funext fun n103 => funext fun l104 => f60v1_w6_eq k c59 c60v1 c82v1 retF p98 n103 l104, show (fun p116 n121 l122 => f60v1_w7A k c59 c60v1 c82v1 retF p116 n121 l122) = (fun p116 n121 l122 => f60v1_w7N k c59 c60v1 c82v1 (fun y0 => retF y0) p116 n121 l122) from funext fun p116 => funext fun n121 => funext fun l122 => f60v1_w7_eq k c59 c60v1 c82v1 retF p116 n121 l122, show (fun p134 n139 l140 => f60v1_w8A k c59 c60v1 c82v1 retF p134 n139 l140) = (fun p134 n139 l140 => f60v1_w8N k c59 c60v1 c82v1 (fun y0 => retF y0) p134 n139 l140) from funext fun p134 => funext fun n139 => funext fun l140 => f60v1_w8_eq k c59 c60v1 c82v1 retF p134 n139 l140, show (fun p152 n157 l158 => f60v1_w9A k c59 c60v1 c82v1 retF p152 n157 l158) = (fun p152 n157 l158 => f60v1_w9N k c59 c60v1 c82v1 (fun y0 => retF y0) p152 n157 l158) from funext fun p152 => funext fun n157 => funext fun l158 => f60v1_w9_eq k c59 c60v1 c82v1 retF p152 n157 l158]; rfl)

noncomputable def G60v1 : Nat → PV → (List PV) → ((List PV) → R) → R
  | 0, _, _, _ => none
  | k + 1, p1, l2, ret0 => f60v1_N k (G59 k) (G60v1 k) (G82v1 k) ret0 p1 l2
theorem S60v1 : ∀ k, Snd Try.prog 60 f60v1_I f60v1_O (fun x ret => G60v1 k x.1 x.2 (fun y0 => ret y0))
  | 0 => snd_none
  | k + 1 => snd_step (E := f60v1_E k (G59 k) (G60v1 k) (G82v1 k)) rfl laidOut noNums (orc_ok (S59 k).o f59_D_ok (orc_ok (S60v1 k).o f60v1_D_ok (orc_ok (S82v1 k).o f82v1_D_ok orc0_ok))) (f := 60) (fn := Try.f60) (code := f60v1_code) Try.func60 (by kernel_rfl) (drawsOk_of laidOut (orc_ok (S59 k).o f59_D_ok (orc_ok (S60v1 k).o f60v1_D_ok (orc_ok (S82v1 k).o f82v1_D_ok orc0_ok))) mixed (by kernel_rfl)) f60v1_un f60v1_un_ok [2000000, 2000001] (fun _ => rfl)
      (fun x ret => f60v1_eq k (G59 k) (G60v1 k) (G82v1 k) ret x.1 x.2)

end Go.Proofs.Ytbellpoahhhmhaa
