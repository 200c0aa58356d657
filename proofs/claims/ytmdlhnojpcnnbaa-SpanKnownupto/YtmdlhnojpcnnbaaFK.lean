/- Functions of the program as Lean functions, each tied to the program by the kernel: catchpolelaw20.SpanKnown -/
import Derived.Test.YtmdlhnojpcnnbaaXC
import Derived.Test.YtmdlhnojpcnnbaaProg
import Derived.KernelRfl
import Derived.Test.YtmdlhnojpcnnbaaBld
set_option linter.unusedVariables false
set_option maxRecDepth 100000
namespace Go.Proofs.Ytmdlhnojpcnnbaa
open Go Go.X
theorem laidOut : laidOutB Try.prog = true := by kernel_rfl
theorem noNums : noNum Try.prog = true := by kernel_rfl
theorem mixed : Try.prog.follows .mixedOrders = true := by kernel_rfl
noncomputable def ownPars : FuncId → Nat → Bool := fun f i => (f == 94 && i == 0)
noncomputable def hpFs : FuncId → Bool := fun f => f == 17 || f == 30 || f == 50 || f == 59 || f == 61 || f == 89

/- catchpole/byteset.Of -/
noncomputable def f48_I : PV → List SV × Obs := fun x => ([.val 36 x], [])
noncomputable def f48_D : List SV → Obs → Option (PV)
  | [.val 36 p1], [] => some p1
  | _, _ => none
theorem f48_D_ok (args : List SV) (B : Obs) (x : PV) (h : f48_D args B = some x) : f48_I x = (args, B) := by
  unfold f48_D at h
  split at h
  · injection h with h; subst h; rfl
  · cases h
noncomputable def f48_O : PV → Out := (fun y => ([.val 25 y], []))
noncomputable def f48_un : Out → Option (PV)
  | ([.val 25 y0], []) => some y0
  | _ => none
theorem f48_un_ok (o : Out) (y : PV) (h : f48_un o = some y) : o = f48_O y := by
  unfold f48_un at h
  split at h
  · injection h with h; subst h; rfl
  · cases h
noncomputable def f48_msk : Nat → Option (List Nat) := fun key => bif key == 9 then some [2, 3, 6, 7, 8] else none
noncomputable def f48_C : Oracle := orc0
noncomputable def f48_E (k : Nat) : Env := { P := Try.prog, nilOwn := fun d => false, fldOwn := fun d i => false, ownPar := ownPars, ownRet := false, hpD := fun d => false, hpF := hpFs, hpNew := false, mask := f48_msk, fuel := k, C := f48_C }
noncomputable def f48_code : Code := Try.f48.body.getD .skip
noncomputable def f48_cw1 : Code := subC f48_code [1, 1, 0, 1, 0, 0]
noncomputable def f48_hw1_0 (p1 : PV) (n5 : Int) (p6 : PV) : St := ⟨[.dead, .dead, .ptr 2 [], .ptr 3 [], .dead, .dead, .val 36 p1, .int .i64 (List.length (PV.els p1) : Int), .int .i64 n5, .dead, .dead, .dead, .dead, .dead, .dead, .dead, .dead, .dead, .dead, .dead, .dead, .dead, .dead], [(2, .box 25 (.val 25 (PV.agg [(PV.int 0), (PV.int 0), (PV.int 0), (PV.int 0)]))), (3, .box 25 (.val 25 p6))]⟩
noncomputable def f48_w1A (k : Nat) (retF : PV → R) (p1 : PV) (n5 : Int) (p6 : PV) : R := loopM (f48_E k) f48_cw1 (kont (f48_E k) f48_code [1, 1, 0, 1, 0] (endK (f48_E k) Try.f48 [] f48_un retF)) k (f48_hw1_0 p1 n5 p6)
noncomputable def f48_w1b0 (ret0 : PV → R) (next_w1_0 : Int → PV → R) (p1 : PV) (n5 : Int) (p6 : PV) : R :=
  bif (decide (n5 < (List.length (PV.els p1) : Int))) then
    bif (true && decide ((0 : Int) ≤ n5) && decide (n5 < (List.length (PV.els p1) : Int))) then
      bif (true && decide ((0 : Int) ≤ (IntKind.wrap .u8 (Int.tdiv (PV.num (List.getD (PV.els p1) (n5).toNat PV.nil)) 64))) && decide ((IntKind.wrap .u8 (Int.tdiv (PV.num (List.getD (PV.els p1) (n5).toNat PV.nil)) 64)) < 4)) then
        let n7 : Int := (PV.num (PV.fld p6 ((IntKind.wrap .u8 (Int.tdiv (PV.num (List.getD (PV.els p1) (n5).toNat PV.nil)) 64))).toNat))
        bif (decide ((0 : Int) ≤ (Int.tmod (PV.num (List.getD (PV.els p1) (n5).toNat PV.nil)) 64))) then
          let n8 : Int := (IntKind.wrap .u64 ((1 : Int) * 2 ^ (min ((Int.tmod (PV.num (List.getD (PV.els p1) (n5).toNat PV.nil)) 64)).toNat 64)))
          bif (true && decide ((0 : Int) ≤ (IntKind.wrap .u8 (Int.tdiv (PV.num (List.getD (PV.els p1) (n5).toNat PV.nil)) 64))) && decide ((IntKind.wrap .u8 (Int.tdiv (PV.num (List.getD (PV.els p1) (n5).toNat PV.nil)) 64)) < 4)) then
            let p9 : PV := (PV.agg (List.set (PV.flds p6) ((IntKind.wrap .u8 (Int.tdiv (PV.num (List.getD (PV.els p1) (n5).toNat PV.nil)) 64))).toNat (PV.int (intBit .or .u64 n7 n8))))
            next_w1_0 (IntKind.wrap .i64 (n5 + (1 : Int))) p9
          else none
        else none
      else none
    else none
  else ret0 p6

theorem f48_w1b0_mem (k : Nat) (retF : PV → R) (NX_w1 : St → R) (p1 : PV) (n5 : Int) (p6 : PV) : exec (f48_E k) f48_cw1 (purgeK (f48_E k) f48_cw1 (loopK NX_w1 (kont (f48_E k) f48_code [1, 1, 0, 1, 0] (endK (f48_E k) Try.f48 [] f48_un retF)))) (f48_hw1_0 p1 n5 p6) = f48_w1b0 (fun y0 => retF y0) (fun n5 p6 => NX_w1 (f48_hw1_0 p1 n5 p6)) p1 n5 p6 := by kernel_rfl

noncomputable def f48_w1b0N (k : Nat) (ret0 : PV → R) (next_w1_0 : Int → PV → R) (p1 : PV) (n5 : Int) (p6 : PV) : R :=
  f48_w1b0 ret0 next_w1_0 p1 n5 p6
theorem f48_w1b0_eq (k : Nat) (retF : PV → R) (NX_w1 : St → R) (p1 : PV) (n5 : Int) (p6 : PV) : exec (f48_E k) f48_cw1 (purgeK (f48_E k) f48_cw1 (loopK NX_w1 (kont (f48_E k) f48_code [1, 1, 0, 1, 0] (endK (f48_E k) Try.f48 [] f48_un retF)))) (f48_hw1_0 p1 n5 p6) = f48_w1b0N k (fun y0 => retF y0) (fun n5 p6 => NX_w1 (f48_hw1_0 p1 n5 p6)) p1 n5 p6 :=
  (f48_w1b0_mem k retF NX_w1 p1 n5 p6)

noncomputable def f48_w1B (k : Nat) (ret0 : PV → R) (p1 : PV) (nx : Int × PV → R) : Int × PV → R := (fun s => f48_w1b0N k ret0 (fun n5 p6 => nx (n5, p6)) p1 s.1 s.2)
noncomputable def f48_w1N (k : Nat) (ret0 : PV → R) (p1 : PV) (n5 : Int) (p6 : PV) : R := loopR (f48_w1B k ret0 p1) k (n5, p6)
theorem f48_w1_eq (k : Nat) (retF : PV → R) (p1 : PV) (n5 : Int) (p6 : PV) : f48_w1A k retF p1 n5 p6 = f48_w1N k (fun y0 => retF y0) p1 n5 p6 :=
  Eq.mp (by kernel_rfl) (loop_sim (E := (f48_E k)) (c := f48_cw1) (K := (kont (f48_E k) f48_code [1, 1, 0, 1, 0] (endK (f48_E k) Try.f48 [] f48_un retF))) (S := Int × PV) (fun s => f48_hw1_0 p1 s.1 s.2) (f48_w1B k (fun y0 => retF y0) p1) (fun NX s => by
    exact Eq.mp (by kernel_rfl) (f48_w1b0_eq k retF NX p1 s.1 s.2)) k (n5, p6))

noncomputable def f48_e (ret0 : PV → R) (w1 : Int → PV → R) (p1 : PV) : R :=
  w1 0 (PV.agg [(PV.int 0), (PV.int 0), (PV.int 0), (PV.int 0)])

theorem f48_e_mem (k : Nat) (retF : PV → R) (p1 : PV) : exec (f48_E k) f48_code (endK (f48_E k) Try.f48 [] f48_un retF) ⟨[.val 36 p1, .undef, .undef, .undef, .undef, .undef, .undef, .undef, .undef, .undef, .undef, .undef, .undef, .undef, .undef, .undef, .undef, .undef, .undef, .undef, .undef, .undef, .undef], []⟩ = f48_e (fun y0 => retF y0) (fun n5 p6 => f48_w1A k retF p1 n5 p6) p1 := by kernel_rfl

noncomputable def f48_N (k : Nat) (ret0 : PV → R) (p1 : PV) : R :=
  f48_e ret0 (fun n5 p6 => f48_w1N k ret0 p1 n5 p6) p1
theorem f48_eq (k : Nat) (retF : PV → R) (p1 : PV) : exec (f48_E k) f48_code (endK (f48_E k) Try.f48 [] f48_un retF) ⟨[.val 36 p1, .undef, .undef, .undef, .undef, .undef, .undef, .undef, .undef, .undef, .undef, .undef, .undef, .undef, .undef, .undef, .undef, .undef, .undef, .undef, .undef, .undef, .undef], []⟩ = f48_N k (fun y0 => retF y0) p1 :=
  (f48_e_mem k retF p1).trans (by rw [show (fun n5 p6 => f48_w1A k retF p1 n5 p6) = (fun n5 p6 => f48_w1N k (fun y0 => retF y0) p1 n5 p6) from funext fun n5 => funext fun p6 => f48_w1_eq k retF p1 n5 p6]; rfl)

noncomputable def G48 : Nat → PV → (PV → R) → R
  | 0, _, _ => none
  | k + 1, p1, ret0 => f48_N k  ret0 p1
theorem S48 : ∀ k, Snd Try.prog 48 f48_I f48_O (fun x ret => G48 k x (fun y0 => ret y0))
  | 0 => snd_none
  | k + 1 => snd_step (E := f48_E k ) rfl laidOut noNums orc0_ok (f := 48) (fn := Try.f48) (code := f48_code) Try.func48 (by kernel_rfl) (drawsOk_of laidOut orc0_ok mixed (by kernel_rfl)) f48_un f48_un_ok [] (fun _ => rfl)
      (fun x ret => f48_eq k  ret x)

/- catchpole/catchpolelaw20.ch -/
noncomputable def f15_I : PV → List SV × Obs := fun x => ([.val 36 x], [])
noncomputable def f15_D : List SV → Obs → Option (PV)
  | [.val 36 p1], [] => some p1
  | _, _ => none
theorem f15_D_ok (args : List SV) (B : Obs) (x : PV) (h : f15_D args B = some x) : f15_I x = (args, B) := by
  unfold f15_D at h
  split at h
  · injection h with h; subst h; rfl
  · cases h
noncomputable def f15_O : PV → Out := (fun y => ([.val 28 y], []))
noncomputable def f15_un : Out → Option (PV)
  | ([.val 28 y0], []) => some y0
  | _ => none
theorem f15_un_ok (o : Out) (y : PV) (h : f15_un o = some y) : o = f15_O y := by
  unfold f15_un at h
  split at h
  · injection h with h; subst h; rfl
  · cases h
noncomputable def f15_msk : Nat → Option (List Nat) := fun key =>  none
noncomputable def f15_C (c48 : PV → (PV → R) → R) : Oracle := orc 48 f48_D f48_O (fun x ret => c48 x (fun y0 => ret y0)) <| orc0
noncomputable def f15_E (k : Nat) (c48 : PV → (PV → R) → R) : Env := { P := Try.prog, nilOwn := fun d => false, fldOwn := fun d i => false, ownPar := ownPars, ownRet := false, hpD := fun d => false, hpF := hpFs, hpNew := false, mask := f15_msk, fuel := k, C := f15_C c48 }
noncomputable def f15_code : Code := Try.f15.body.getD .skip
noncomputable def f15_e (c48 : PV → (PV → R) → R) (ret0 : PV → R) (p1 : PV) : R :=
  c48 p1 fun p2 =>
  ret0 (PV.agg [(PV.int 2), p2, (PV.int 0), (PV.list [])])

theorem f15_e_mem (k : Nat) (c48 : PV → (PV → R) → R) (retF : PV → R) (p1 : PV) : exec (f15_E k c48) f15_code (endK (f15_E k c48) Try.f15 [] f15_un retF) ⟨[.val 36 p1, .undef, .undef, .undef, .undef, .undef], []⟩ = f15_e c48 (fun y0 => retF y0) p1 := by kernel_rfl

noncomputable def f15_N (k : Nat) (c48 : PV → (PV → R) → R) (ret0 : PV → R) (p1 : PV) : R :=
  f15_e c48 ret0 p1
theorem f15_eq (k : Nat) (c48 : PV → (PV → R) → R) (retF : PV → R) (p1 : PV) : exec (f15_E k c48) f15_code (endK (f15_E k c48) Try.f15 [] f15_un retF) ⟨[.val 36 p1, .undef, .undef, .undef, .undef, .undef], []⟩ = f15_N k c48 (fun y0 => retF y0) p1 :=
  (f15_e_mem k c48 retF p1)

noncomputable def G15 : Nat → PV → (PV → R) → R
  | 0, _, _ => none
  | k + 1, p1, ret0 => f15_N k (G48 k) ret0 p1
theorem S15 : ∀ k, Snd Try.prog 15 f15_I f15_O (fun x ret => G15 k x (fun y0 => ret y0))
  | 0 => snd_none
  | k + 1 => snd_step (E := f15_E k (G48 k)) rfl laidOut noNums (orc_ok (S48 k).o f48_D_ok orc0_ok) (f := 15) (fn := Try.f15) (code := f15_code) Try.func15 (by kernel_rfl) (drawsOk_of laidOut (orc_ok (S48 k).o f48_D_ok orc0_ok) mixed (by kernel_rfl)) f15_un f15_un_ok [] (fun _ => rfl)
      (fun x ret => f15_eq k (G48 k) ret x)

/- catchpole/catchpolelaw20.star -/
noncomputable def f16_I : PV → List SV × Obs := fun x => ([.val 28 x], [])
noncomputable def f16_D : List SV → Obs → Option (PV)
  | [.val 28 p1], [] => some p1
  | _, _ => none
theorem f16_D_ok (args : List SV) (B : Obs) (x : PV) (h : f16_D args B = some x) : f16_I x = (args, B) := by
  unfold f16_D at h
  split at h
  · injection h with h; subst h; rfl
  · cases h
noncomputable def f16_O : PV → Out := (fun y => ([.val 28 y], []))
noncomputable def f16_un : Out → Option (PV)
  | ([.val 28 y0], []) => some y0
  | _ => none
theorem f16_un_ok (o : Out) (y : PV) (h : f16_un o = some y) : o = f16_O y := by
  unfold f16_un at h
  split at h
  · injection h with h; subst h; rfl
  · cases h
noncomputable def f16_msk : Nat → Option (List Nat) := fun key =>  none
noncomputable def f16_C : Oracle := orc0
noncomputable def f16_E (k : Nat) : Env := { P := Try.prog, nilOwn := fun d => false, fldOwn := fun d i => false, ownPar := ownPars, ownRet := false, hpD := fun d => false, hpF := hpFs, hpNew := false, mask := f16_msk, fuel := k, C := f16_C }
noncomputable def f16_code : Code := Try.f16.body.getD .skip
noncomputable def f16_e (ret0 : PV → R) (p1 : PV) : R :=
  ret0 (PV.agg [(PV.int 5), (PV.agg [(PV.int 0), (PV.int 0), (PV.int 0), (PV.int 0)]), (PV.int 0), (PV.list [p1])])

theorem f16_e_mem (k : Nat) (retF : PV → R) (p1 : PV) : exec (f16_E k) f16_code (endK (f16_E k) Try.f16 [] f16_un retF) ⟨[.val 28 p1, .undef, .undef, .undef, .undef, .undef], []⟩ = f16_e (fun y0 => retF y0) p1 := by kernel_rfl

noncomputable def f16_N (k : Nat) (ret0 : PV → R) (p1 : PV) : R :=
  f16_e ret0 p1
theorem f16_eq (k : Nat) (retF : PV → R) (p1 : PV) : exec (f16_E k) f16_code (endK (f16_E k) Try.f16 [] f16_un retF) ⟨[.val 28 p1, .undef, .undef, .undef, .undef, .undef], []⟩ = f16_N k (fun y0 => retF y0) p1 :=
  (f16_e_mem k retF p1)

noncomputable def G16 : Nat → PV → (PV → R) → R
  | 0, _, _ => none
  | k + 1, p1, ret0 => f16_N k  ret0 p1
theorem S16 : ∀ k, Snd Try.prog 16 f16_I f16_O (fun x ret => G16 k x (fun y0 => ret y0))
  | 0 => snd_none
  | k + 1 => snd_step (E := f16_E k ) rfl laidOut noNums orc0_ok (f := 16) (fn := Try.f16) (code := f16_code) Try.func16 (by kernel_rfl) (drawsOk_of laidOut orc0_ok mixed (by kernel_rfl)) f16_un f16_un_ok [] (fun _ => rfl)
      (fun x ret => f16_eq k  ret x)

/- catchpole/core.Size -/
noncomputable def f23_I : PV → List SV × Obs := fun x => ([.val 28 x], [])
noncomputable def f23_D : List SV → Obs → Option (PV)
  | [.val 28 p1], [] => some p1
  | _, _ => none
theorem f23_D_ok (args : List SV) (B : Obs) (x : PV) (h : f23_D args B = some x) : f23_I x = (args, B) := by
  unfold f23_D at h
  split at h
  · injection h with h; subst h; rfl
  · cases h
noncomputable def f23_O : Int → Out := (fun y => ([.int .i64 y], []))
noncomputable def f23_un : Out → Option (Int)
  | ([.int .i64 y0], []) => some y0
  | _ => none
theorem f23_un_ok (o : Out) (y : Int) (h : f23_un o = some y) : o = f23_O y := by
  unfold f23_un at h
  split at h
  · injection h with h; subst h; rfl
  · cases h
noncomputable def f23_msk : Nat → Option (List Nat) := fun key => bif key == 9 then some [3, 7, 8, 9] else none
noncomputable def f23_C (c23 : PV → (Int → R) → R) : Oracle := orc 23 f23_D f23_O (fun x ret => c23 x (fun y0 => ret y0)) <| orc0
noncomputable def f23_E (k : Nat) (c23 : PV → (Int → R) → R) : Env := { P := Try.prog, nilOwn := fun d => false, fldOwn := fun d i => false, ownPar := ownPars, ownRet := false, hpD := fun d => false, hpF := hpFs, hpNew := false, mask := f23_msk, fuel := k, C := f23_C c23 }
noncomputable def f23_code : Code := Try.f23.body.getD .skip
noncomputable def f23_cw1 : Code := subC f23_code [1, 1, 0, 1, 0, 0]
noncomputable def f23_hw1_0 (p1 : PV) (n3 : Int) (n4 : Int) : St := ⟨[.dead, .dead, .dead, .int .i64 n3, .dead, .dead, .dead, .val 26 (PV.fld p1 3), .int .i64 (List.length (PV.els (PV.fld p1 3)) : Int), .int .i64 n4, .dead, .dead, .dead, .dead, .dead, .dead, .dead, .dead, .dead, .dead, .dead, .dead], []⟩
noncomputable def f23_w1A (k : Nat) (c23 : PV → (Int → R) → R) (retF : Int → R) (p1 : PV) (n3 : Int) (n4 : Int) : R := loopM (f23_E k c23) f23_cw1 (kont (f23_E k c23) f23_code [1, 1, 0, 1, 0] (endK (f23_E k c23) Try.f23 [] f23_un retF)) k (f23_hw1_0 p1 n3 n4)
noncomputable def f23_w1b0 (c23 : PV → (Int → R) → R) (ret0 : Int → R) (next_w1_0 : Int → Int → R) (p1 : PV) (n3 : Int) (n4 : Int) : R :=
  bif (decide (n4 < (List.length (PV.els (PV.fld p1 3)) : Int))) then
    bif (true && decide ((0 : Int) ≤ n4) && decide (n4 < (List.length (PV.els (PV.fld p1 3)) : Int))) then
      bif (decide ((100000 : Int) ≤ n3)) then
        ret0 (if (100000 : Int) < n3 then 100000 else n3)
      else c23 (List.getD (PV.els (PV.fld p1 3)) (n4).toNat PV.nil) fun n5 =>
      next_w1_0 (IntKind.wrap .i64 (n3 + n5)) (IntKind.wrap .i64 (n4 + (1 : Int)))
    else none
  else ret0 (if (100000 : Int) < n3 then 100000 else n3)

theorem f23_w1b0_mem (k : Nat) (c23 : PV → (Int → R) → R) (retF : Int → R) (NX_w1 : St → R) (p1 : PV) (n3 : Int) (n4 : Int) : exec (f23_E k c23) f23_cw1 (purgeK (f23_E k c23) f23_cw1 (loopK NX_w1 (kont (f23_E k c23) f23_code [1, 1, 0, 1, 0] (endK (f23_E k c23) Try.f23 [] f23_un retF)))) (f23_hw1_0 p1 n3 n4) = f23_w1b0 c23 (fun y0 => retF y0) (fun n3 n4 => NX_w1 (f23_hw1_0 p1 n3 n4)) p1 n3 n4 := by kernel_rfl

noncomputable def f23_w1b0N (k : Nat) (c23 : PV → (Int → R) → R) (ret0 : Int → R) (next_w1_0 : Int → Int → R) (p1 : PV) (n3 : Int) (n4 : Int) : R :=
  f23_w1b0 c23 ret0 next_w1_0 p1 n3 n4
theorem f23_w1b0_eq (k : Nat) (c23 : PV → (Int → R) → R) (retF : Int → R) (NX_w1 : St → R) (p1 : PV) (n3 : Int) (n4 : Int) : exec (f23_E k c23) f23_cw1 (purgeK (f23_E k c23) f23_cw1 (loopK NX_w1 (kont (f23_E k c23) f23_code [1, 1, 0, 1, 0] (endK (f23_E k c23) Try.f23 [] f23_un retF)))) (f23_hw1_0 p1 n3 n4) = f23_w1b0N k c23 (fun y0 => retF y0) (fun n3 n4 => NX_w1 (f23_hw1_0 p1 n3 n4)) p1 n3 n4 :=
  (f23_w1b0_mem k c23 retF NX_w1 p1 n3 n4)

noncomputable def f23_w1B (k : Nat) (c23 : PV → (Int → R) → R) (ret0 : Int → R) (p1 : PV) (nx : Int × Int → R) : Int × Int → R := (fun s => f23_w1b0N k c23 ret0 (fun n3 n4 => nx (n3, n4)) p1 s.1 s.2)
noncomputable def f23_w1N (k : Nat) (c23 : PV → (Int → R) → R) (ret0 : Int → R) (p1 : PV) (n3 : Int) (n4 : Int) : R := loopR (f23_w1B k c23 ret0 p1) k (n3, n4)
theorem f23_w1_eq (k : Nat) (c23 : PV → (Int → R) → R) (retF : Int → R) (p1 : PV) (n3 : Int) (n4 : Int) : f23_w1A k c23 retF p1 n3 n4 = f23_w1N k c23 (fun y0 => retF y0) p1 n3 n4 :=
  Eq.mp (by kernel_rfl) (loop_sim (E := (f23_E k c23)) (c := f23_cw1) (K := (kont (f23_E k c23) f23_code [1, 1, 0, 1, 0] (endK (f23_E k c23) Try.f23 [] f23_un retF))) (S := Int × Int) (fun s => f23_hw1_0 p1 s.1 s.2) (f23_w1B k c23 (fun y0 => retF y0) p1) (fun NX s => by
    exact Eq.mp (by kernel_rfl) (f23_w1b0_eq k c23 retF NX p1 s.1 s.2)) k (n3, n4))

noncomputable def f23_e (c23 : PV → (Int → R) → R) (ret0 : Int → R) (w1 : Int → Int → R) (p1 : PV) : R :=
  w1 1 0

theorem f23_e_mem (k : Nat) (c23 : PV → (Int → R) → R) (retF : Int → R) (p1 : PV) : exec (f23_E k c23) f23_code (endK (f23_E k c23) Try.f23 [] f23_un retF) ⟨[.val 28 p1, .undef, .undef, .undef, .undef, .undef, .undef, .undef, .undef, .undef, .undef, .undef, .undef, .undef, .undef, .undef, .undef, .undef, .undef, .undef, .undef, .undef], []⟩ = f23_e c23 (fun y0 => retF y0) (fun n3 n4 => f23_w1A k c23 retF p1 n3 n4) p1 := by kernel_rfl

noncomputable def f23_N (k : Nat) (c23 : PV → (Int → R) → R) (ret0 : Int → R) (p1 : PV) : R :=
  f23_e c23 ret0 (fun n3 n4 => f23_w1N k c23 ret0 p1 n3 n4) p1
theorem f23_eq (k : Nat) (c23 : PV → (Int → R) → R) (retF : Int → R) (p1 : PV) : exec (f23_E k c23) f23_code (endK (f23_E k c23) Try.f23 [] f23_un retF) ⟨[.val 28 p1, .undef, .undef, .undef, .undef, .undef, .undef, .undef, .undef, .undef, .undef, .undef, .undef, .undef, .undef, .undef, .undef, .undef, .undef, .undef, .undef, .undef], []⟩ = f23_N k c23 (fun y0 => retF y0) p1 :=
  (f23_e_mem k c23 retF p1).trans (by rw [show (fun n3 n4 => f23_w1A k c23 retF p1 n3 n4) = (fun n3 n4 => f23_w1N k c23 (fun y0 => retF y0) p1 n3 n4) from funext fun n3 => funext fun n4 => f23_w1_eq k c23 retF p1 n3 n4]; rfl)

noncomputable def G23 : Nat → PV → (Int → R) → R
  | 0, _, _ => none
  | k + 1, p1, ret0 => f23_N k (G23 k) ret0 p1
theorem S23 : ∀ k, Snd Try.prog 23 f23_I f23_O (fun x ret => G23 k x (fun y0 => ret y0))
  | 0 => snd_none
  | k + 1 => snd_step (E := f23_E k (G23 k)) rfl laidOut noNums (orc_ok (S23 k).o f23_D_ok orc0_ok) (f := 23) (fn := Try.f23) (code := f23_code) Try.func23 (by kernel_rfl) (drawsOk_of laidOut (orc_ok (S23 k).o f23_D_ok orc0_ok) mixed (by kernel_rfl)) f23_un f23_un_ok [] (fun _ => rfl)
      (fun x ret => f23_eq k (G23 k) ret x)

/- catchpole/core.kids -/
noncomputable def f86_I : Int → List SV × Obs := fun x => ([.int .i64 x], [])
noncomputable def f86_D : List SV → Obs → Option (Int)
  | [.int .i64 n1], [] => some n1
  | _, _ => none
theorem f86_D_ok (args : List SV) (B : Obs) (x : Int) (h : f86_D args B = some x) : f86_I x = (args, B) := by
  unfold f86_D at h
  split at h
  · injection h with h; subst h; rfl
  · cases h
noncomputable def f86_O : Int → Out := (fun y => ([.int .i64 y], []))
noncomputable def f86_un : Out → Option (Int)
  | ([.int .i64 y0], []) => some y0
  | _ => none
theorem f86_un_ok (o : Out) (y : Int) (h : f86_un o = some y) : o = f86_O y := by
  unfold f86_un at h
  split at h
  · injection h with h; subst h; rfl
  · cases h
noncomputable def f86_msk : Nat → Option (List Nat) := fun key =>  none
noncomputable def f86_C : Oracle := orc0
noncomputable def f86_E (k : Nat) : Env := { P := Try.prog, nilOwn := fun d => false, fldOwn := fun d i => false, ownPar := ownPars, ownRet := false, hpD := fun d => false, hpF := hpFs, hpNew := false, mask := f86_msk, fuel := k, C := f86_C }
noncomputable def f86_code : Code := Try.f86.body.getD .skip
noncomputable def f86_e (ret0 : Int → R) (n1 : Int) : R :=
  bif (decide (n1 = (0 : Int))) then
    ret0 0
  else bif (decide (n1 = (1 : Int))) then
    ret0 0
  else bif (decide (n1 = (2 : Int))) then
    ret0 0
  else bif (decide (n1 = (3 : Int))) then
    ret0 2
  else bif (decide (n1 = (4 : Int))) then
    ret0 2
  else bif (decide (n1 = (5 : Int))) then
    ret0 1
  else bif (decide (n1 = (6 : Int))) then
    ret0 1
  else bif (decide (n1 = (7 : Int))) then
    ret0 1
  else ret0 (-1)

theorem f86_e_mem (k : Nat) (retF : Int → R) (n1 : Int) : exec (f86_E k) f86_code (endK (f86_E k) Try.f86 [] f86_un retF) ⟨[.int .i64 n1, .undef, .undef, .undef, .undef, .undef, .undef, .undef, .undef, .undef, .undef, .undef, .undef, .undef, .undef], []⟩ = f86_e (fun y0 => retF y0) n1 := by kernel_rfl

noncomputable def f86_N (k : Nat) (ret0 : Int → R) (n1 : Int) : R :=
  f86_e ret0 n1
theorem f86_eq (k : Nat) (retF : Int → R) (n1 : Int) : exec (f86_E k) f86_code (endK (f86_E k) Try.f86 [] f86_un retF) ⟨[.int .i64 n1, .undef, .undef, .undef, .undef, .undef, .undef, .undef, .undef, .undef, .undef, .undef, .undef, .undef, .undef], []⟩ = f86_N k (fun y0 => retF y0) n1 :=
  (f86_e_mem k retF n1)

noncomputable def G86 : Nat → Int → (Int → R) → R
  | 0, _, _ => none
  | k + 1, n1, ret0 => f86_N k  ret0 n1
theorem S86 : ∀ k, Snd Try.prog 86 f86_I f86_O (fun x ret => G86 k x (fun y0 => ret y0))
  | 0 => snd_none
  | k + 1 => snd_step (E := f86_E k ) rfl laidOut noNums orc0_ok (f := 86) (fn := Try.f86) (code := f86_code) Try.func86 (by kernel_rfl) (drawsOk_of laidOut orc0_ok mixed (by kernel_rfl)) f86_un f86_un_ok [] (fun _ => rfl)
      (fun x ret => f86_eq k  ret x)

/- catchpole/core.good$1 -/
noncomputable def f88_I : PV × Int → List SV × Obs := fun x => ([.val 28 x.1, .ptr 4000000 []], [(4000000, .box 3 (.int .i64 x.2))])
noncomputable def f88_D : List SV → Obs → Option (PV × Int)
  | [.val 28 p1, .ptr 4000000 []], [(4000000, .box 3 (.int .i64 n2))] => some (p1, n2)
  | _, _ => none
theorem f88_D_ok (args : List SV) (B : Obs) (x : PV × Int) (h : f88_D args B = some x) : f88_I x = (args, B) := by
  unfold f88_D at h
  split at h
  · injection h with h; subst h; rfl
  · cases h
noncomputable def f88_O : Bool × Int → Out := (fun y => ([.bool y.1], [(4000000, .box 3 (.int .i64 y.2))]))
noncomputable def f88_un : Out → Option (Bool × Int)
  | ([.bool y0], [(4000000, .box 3 (.int .i64 y1))]) => some (y0, y1)
  | _ => none
theorem f88_un_ok (o : Out) (y : Bool × Int) (h : f88_un o = some y) : o = f88_O y := by
  unfold f88_un at h
  split at h
  · injection h with h; subst h; rfl
  · cases h
/- slices.IndexFunc[[]catchpole/core.Core,catchpole/core.Core] -/
noncomputable def f102_I : PV × Int → List SV × Obs := fun x => ([.val 26 x.1, .fn 88 [.ptr 4001000 []]], [(4001000, .box 3 (.int .i64 x.2))])
noncomputable def f102_D : List SV → Obs → Option (PV × Int)
  | [.val 26 p1, .fn 88 [.ptr 4001000 []]], [(4001000, .box 3 (.int .i64 n2))] => some (p1, n2)
  | _, _ => none
theorem f102_D_ok (args : List SV) (B : Obs) (x : PV × Int) (h : f102_D args B = some x) : f102_I x = (args, B) := by
  unfold f102_D at h
  split at h
  · injection h with h; subst h; rfl
  · cases h
noncomputable def f102_O : Int × Int → Out := (fun y => ([.int .i64 y.1], [(4001000, .box 3 (.int .i64 y.2))]))
noncomputable def f102_un : Out → Option (Int × Int)
  | ([.int .i64 y0], [(4001000, .box 3 (.int .i64 y1))]) => some (y0, y1)
  | _ => none
theorem f102_un_ok (o : Out) (y : Int × Int) (h : f102_un o = some y) : o = f102_O y := by
  unfold f102_un at h
  split at h
  · injection h with h; subst h; rfl
  · cases h
/- slices.ContainsFunc[[]catchpole/core.Core,catchpole/core.Core] -/
noncomputable def f87_I : PV × Int → List SV × Obs := fun x => ([.val 26 x.1, .fn 88 [.ptr 4001000 []]], [(4001000, .box 3 (.int .i64 x.2))])
noncomputable def f87_D : List SV → Obs → Option (PV × Int)
  | [.val 26 p1, .fn 88 [.ptr 4001000 []]], [(4001000, .box 3 (.int .i64 n2))] => some (p1, n2)
  | _, _ => none
theorem f87_D_ok (args : List SV) (B : Obs) (x : PV × Int) (h : f87_D args B = some x) : f87_I x = (args, B) := by
  unfold f87_D at h
  split at h
  · injection h with h; subst h; rfl
  · cases h
noncomputable def f87_O : Bool × Int → Out := (fun y => ([.bool y.1], [(4001000, .box 3 (.int .i64 y.2))]))
noncomputable def f87_un : Out → Option (Bool × Int)
  | ([.bool y0], [(4001000, .box 3 (.int .i64 y1))]) => some (y0, y1)
  | _ => none
theorem f87_un_ok (o : Out) (y : Bool × Int) (h : f87_un o = some y) : o = f87_O y := by
  unfold f87_un at h
  split at h
  · injection h with h; subst h; rfl
  · cases h
/- catchpole/core.good -/
noncomputable def f62_I : PV × Int → List SV × Obs := fun x => ([.val 28 x.1, .int .i64 x.2], [])
noncomputable def f62_D : List SV → Obs → Option (PV × Int)
  | [.val 28 p1, .int .i64 n2], [] => some (p1, n2)
  | _, _ => none
theorem f62_D_ok (args : List SV) (B : Obs) (x : PV × Int) (h : f62_D args B = some x) : f62_I x = (args, B) := by
  unfold f62_D at h
  split at h
  · injection h with h; subst h; rfl
  · cases h
noncomputable def f62_O : Bool → Out := (fun y => ([.bool y], []))
noncomputable def f62_un : Out → Option (Bool)
  | ([.bool y0], []) => some y0
  | _ => none
theorem f62_un_ok (o : Out) (y : Bool) (h : f62_un o = some y) : o = f62_O y := by
  unfold f62_un at h
  split at h
  · injection h with h; subst h; rfl
  · cases h
noncomputable def f88_msk : Nat → Option (List Nat) := fun key =>  none
noncomputable def f88_C (c62 : PV → Int → (Bool → R) → R) : Oracle := orc 62 f62_D f62_O (fun x ret => c62 x.1 x.2 (fun y0 => ret y0)) <| orc0
noncomputable def f88_E (k : Nat) (c62 : PV → Int → (Bool → R) → R) : Env := { P := Try.prog, nilOwn := fun d => false, fldOwn := fun d i => false, ownPar := ownPars, ownRet := false, hpD := fun d => false, hpF := hpFs, hpNew := false, mask := f88_msk, fuel := k, C := f88_C c62 }
noncomputable def f88_code : Code := Try.f88.body.getD .skip
noncomputable def f88_e (c62 : PV → Int → (Bool → R) → R) (ret0 : Bool → Int → R) (p1 : PV) (n2 : Int) : R :=
  c62 p1 (IntKind.wrap .i64 (n2 - (1 : Int))) fun b3 =>
  ret0 (!b3) n2

theorem f88_e_mem (k : Nat) (c62 : PV → Int → (Bool → R) → R) (retF : Bool × Int → R) (p1 : PV) (n2 : Int) : exec (f88_E k c62) f88_code (endK (f88_E k c62) Try.f88 [4000000] f88_un retF) ⟨[.val 28 p1, .ptr 4000000 [], .undef, .undef, .undef, .undef, .undef, .undef, .undef], [(4000000, .box 3 (.int .i64 n2))]⟩ = f88_e c62 (fun y0 y1 => retF (y0, y1)) p1 n2 := by kernel_rfl

noncomputable def f88_N (k : Nat) (c62 : PV → Int → (Bool → R) → R) (ret0 : Bool → Int → R) (p1 : PV) (n2 : Int) : R :=
  f88_e c62 ret0 p1 n2
theorem f88_eq (k : Nat) (c62 : PV → Int → (Bool → R) → R) (retF : Bool × Int → R) (p1 : PV) (n2 : Int) : exec (f88_E k c62) f88_code (endK (f88_E k c62) Try.f88 [4000000] f88_un retF) ⟨[.val 28 p1, .ptr 4000000 [], .undef, .undef, .undef, .undef, .undef, .undef, .undef], [(4000000, .box 3 (.int .i64 n2))]⟩ = f88_N k c62 (fun y0 y1 => retF (y0, y1)) p1 n2 :=
  (f88_e_mem k c62 retF p1 n2)

noncomputable def f102_msk : Nat → Option (List Nat) := fun key => bif key == 6 then some [0, 1, 7, 8] else none
noncomputable def f102_C (c88 : PV → Int → (Bool → Int → R) → R) : Oracle := orc 88 f88_D f88_O (fun x ret => c88 x.1 x.2 (fun y0 y1 => ret (y0, y1))) <| orc0
noncomputable def f102_E (k : Nat) (c88 : PV → Int → (Bool → Int → R) → R) : Env := { P := Try.prog, nilOwn := fun d => false, fldOwn := fun d i => false, ownPar := ownPars, ownRet := false, hpD := fun d => false, hpF := hpFs, hpNew := false, mask := f102_msk, fuel := k, C := f102_C c88 }
noncomputable def f102_code : Code := Try.f102.body.getD .skip
noncomputable def f102_cw1 : Code := subC f102_code [1, 0, 1, 0, 0]
noncomputable def f102_hw1_0 (p1 : PV) (n5 : Int) (n6 : Int) : St := ⟨[.val 26 p1, .fn 88 [.ptr 4001000 []], .dead, .dead, .dead, .dead, .dead, .int .i64 (List.length (PV.els p1) : Int), .int .i64 n5, .dead, .dead, .dead, .dead, .dead, .dead, .dead, .dead, .dead, .dead], [(4001000, .box 3 (.int .i64 n6))]⟩
noncomputable def f102_w1A (k : Nat) (c88 : PV → Int → (Bool → Int → R) → R) (retF : Int × Int → R) (p1 : PV) (n5 : Int) (n6 : Int) : R := loopM (f102_E k c88) f102_cw1 (kont (f102_E k c88) f102_code [1, 0, 1, 0] (endK (f102_E k c88) Try.f102 [4001000] f102_un retF)) k (f102_hw1_0 p1 n5 n6)
noncomputable def f102_w1b0 (c88 : PV → Int → (Bool → Int → R) → R) (ret0 : Int → Int → R) (next_w1_0 : Int → Int → R) (p1 : PV) (n5 : Int) (n6 : Int) : R :=
  bif (decide (n5 < (List.length (PV.els p1) : Int))) then
    bif (true && decide ((0 : Int) ≤ n5) && decide (n5 < (List.length (PV.els p1) : Int))) then
      c88 (List.getD (PV.els p1) (n5).toNat PV.nil) n6 fun b7 n8 =>
      bif b7 then
        ret0 n5 n8
      else next_w1_0 (IntKind.wrap .i64 (n5 + (1 : Int))) n8
    else none
  else ret0 (-1) n6

theorem f102_w1b0_mem (k : Nat) (c88 : PV → Int → (Bool → Int → R) → R) (retF : Int × Int → R) (NX_w1 : St → R) (p1 : PV) (n5 : Int) (n6 : Int) : exec (f102_E k c88) f102_cw1 (purgeK (f102_E k c88) f102_cw1 (loopK NX_w1 (kont (f102_E k c88) f102_code [1, 0, 1, 0] (endK (f102_E k c88) Try.f102 [4001000] f102_un retF)))) (f102_hw1_0 p1 n5 n6) = f102_w1b0 c88 (fun y0 y1 => retF (y0, y1)) (fun n5 n6 => NX_w1 (f102_hw1_0 p1 n5 n6)) p1 n5 n6 := by kernel_rfl

noncomputable def f102_w1b0N (k : Nat) (c88 : PV → Int → (Bool → Int → R) → R) (ret0 : Int → Int → R) (next_w1_0 : Int → Int → R) (p1 : PV) (n5 : Int) (n6 : Int) : R :=
  f102_w1b0 c88 ret0 next_w1_0 p1 n5 n6
theorem f102_w1b0_eq (k : Nat) (c88 : PV → Int → (Bool → Int → R) → R) (retF : Int × Int → R) (NX_w1 : St → R) (p1 : PV) (n5 : Int) (n6 : Int) : exec (f102_E k c88) f102_cw1 (purgeK (f102_E k c88) f102_cw1 (loopK NX_w1 (kont (f102_E k c88) f102_code [1, 0, 1, 0] (endK (f102_E k c88) Try.f102 [4001000] f102_un retF)))) (f102_hw1_0 p1 n5 n6) = f102_w1b0N k c88 (fun y0 y1 => retF (y0, y1)) (fun n5 n6 => NX_w1 (f102_hw1_0 p1 n5 n6)) p1 n5 n6 :=
  (f102_w1b0_mem k c88 retF NX_w1 p1 n5 n6)

noncomputable def f102_w1B (k : Nat) (c88 : PV → Int → (Bool → Int → R) → R) (ret0 : Int → Int → R) (p1 : PV) (nx : Int × Int → R) : Int × Int → R := (fun s => f102_w1b0N k c88 ret0 (fun n5 n6 => nx (n5, n6)) p1 s.1 s.2)
noncomputable def f102_w1N (k : Nat) (c88 : PV → Int → (Bool → Int → R) → R) (ret0 : Int → Int → R) (p1 : PV) (n5 : Int) (n6 : Int) : R := loopR (f102_w1B k c88 ret0 p1) k (n5, n6)
theorem f102_w1_eq (k : Nat) (c88 : PV → Int → (Bool → Int → R) → R) (retF : Int × Int → R) (p1 : PV) (n5 : Int) (n6 : Int) : f102_w1A k c88 retF p1 n5 n6 = f102_w1N k c88 (fun y0 y1 => retF (y0, y1)) p1 n5 n6 :=
  Eq.mp (by kernel_rfl) (loop_sim (E := (f102_E k c88)) (c := f102_cw1) (K := (kont (f102_E k c88) f102_code [1, 0, 1, 0] (endK (f102_E k c88) Try.f102 [4001000] f102_un retF))) (S := Int × Int) (fun s => f102_hw1_0 p1 s.1 s.2) (f102_w1B k c88 (fun y0 y1 => retF (y0, y1)) p1) (fun NX s => by
    exact Eq.mp (by kernel_rfl) (f102_w1b0_eq k c88 retF NX p1 s.1 s.2)) k (n5, n6))

noncomputable def f102_e (c88 : PV → Int → (Bool → Int → R) → R) (ret0 : Int → Int → R) (w1 : Int → Int → R) (p1 : PV) (n2 : Int) : R :=
  w1 0 n2

theorem f102_e_mem (k : Nat) (c88 : PV → Int → (Bool → Int → R) → R) (retF : Int × Int → R) (p1 : PV) (n2 : Int) : exec (f102_E k c88) f102_code (endK (f102_E k c88) Try.f102 [4001000] f102_un retF) ⟨[.val 26 p1, .fn 88 [.ptr 4001000 []], .undef, .undef, .undef, .undef, .undef, .undef, .undef, .undef, .undef, .undef, .undef, .undef, .undef, .undef, .undef, .undef, .undef], [(4001000, .box 3 (.int .i64 n2))]⟩ = f102_e c88 (fun y0 y1 => retF (y0, y1)) (fun n5 n6 => f102_w1A k c88 retF p1 n5 n6) p1 n2 := by kernel_rfl

noncomputable def f102_N (k : Nat) (c88 : PV → Int → (Bool → Int → R) → R) (ret0 : Int → Int → R) (p1 : PV) (n2 : Int) : R :=
  f102_e c88 ret0 (fun n5 n6 => f102_w1N k c88 ret0 p1 n5 n6) p1 n2
theorem f102_eq (k : Nat) (c88 : PV → Int → (Bool → Int → R) → R) (retF : Int × Int → R) (p1 : PV) (n2 : Int) : exec (f102_E k c88) f102_code (endK (f102_E k c88) Try.f102 [4001000] f102_un retF) ⟨[.val 26 p1, .fn 88 [.ptr 4001000 []], .undef, .undef, .undef, .undef, .undef, .undef, .undef, .undef, .undef, .undef, .undef, .undef, .undef, .undef, .undef, .undef, .undef], [(4001000, .box 3 (.int .i64 n2))]⟩ = f102_N k c88 (fun y0 y1 => retF (y0, y1)) p1 n2 :=
  (f102_e_mem k c88 retF p1 n2).trans (by rw [show (fun n5 n6 => f102_w1A k c88 retF p1 n5 n6) = (fun n5 n6 => f102_w1N k c88 (fun y0 y1 => retF (y0, y1)) p1 n5 n6) from funext fun n5 => funext fun n6 => f102_w1_eq k c88 retF p1 n5 n6]; rfl)

noncomputable def f87_msk : Nat → Option (List Nat) := fun key =>  none
noncomputable def f87_C (c102 : PV → Int → (Int → Int → R) → R) : Oracle := orc 102 f102_D f102_O (fun x ret => c102 x.1 x.2 (fun y0 y1 => ret (y0, y1))) <| orc0
noncomputable def f87_E (k : Nat) (c102 : PV → Int → (Int → Int → R) → R) : Env := { P := Try.prog, nilOwn := fun d => false, fldOwn := fun d i => false, ownPar := ownPars, ownRet := false, hpD := fun d => false, hpF := hpFs, hpNew := false, mask := f87_msk, fuel := k, C := f87_C c102 }
noncomputable def f87_code : Code := Try.f87.body.getD .skip
noncomputable def f87_e (c102 : PV → Int → (Int → Int → R) → R) (ret0 : Bool → Int → R) (p1 : PV) (n2 : Int) : R :=
  c102 p1 n2 fun n3 n4 =>
  ret0 (decide ((0 : Int) ≤ n3)) n4

theorem f87_e_mem (k : Nat) (c102 : PV → Int → (Int → Int → R) → R) (retF : Bool × Int → R) (p1 : PV) (n2 : Int) : exec (f87_E k c102) f87_code (endK (f87_E k c102) Try.f87 [4001000] f87_un retF) ⟨[.val 26 p1, .fn 88 [.ptr 4001000 []], .undef, .undef, .undef, .undef, .undef, .undef, .undef], [(4001000, .box 3 (.int .i64 n2))]⟩ = f87_e c102 (fun y0 y1 => retF (y0, y1)) p1 n2 := by kernel_rfl

noncomputable def f87_N (k : Nat) (c102 : PV → Int → (Int → Int → R) → R) (ret0 : Bool → Int → R) (p1 : PV) (n2 : Int) : R :=
  f87_e c102 ret0 p1 n2
theorem f87_eq (k : Nat) (c102 : PV → Int → (Int → Int → R) → R) (retF : Bool × Int → R) (p1 : PV) (n2 : Int) : exec (f87_E k c102) f87_code (endK (f87_E k c102) Try.f87 [4001000] f87_un retF) ⟨[.val 26 p1, .fn 88 [.ptr 4001000 []], .undef, .undef, .undef, .undef, .undef, .undef, .undef], [(4001000, .box 3 (.int .i64 n2))]⟩ = f87_N k c102 (fun y0 y1 => retF (y0, y1)) p1 n2 :=
  (f87_e_mem k c102 retF p1 n2)

noncomputable def f62_msk : Nat → Option (List Nat) := fun key =>  none
noncomputable def f62_C (c86 : Int → (Int → R) → R) (c87 : PV → Int → (Bool → Int → R) → R) : Oracle := orc 86 f86_D f86_O (fun x ret => c86 x (fun y0 => ret y0)) <| orc 87 f87_D f87_O (fun x ret => c87 x.1 x.2 (fun y0 y1 => ret (y0, y1))) <| orc0
noncomputable def f62_E (k : Nat) (c86 : Int → (Int → R) → R) (c87 : PV → Int → (Bool → Int → R) → R) : Env := { P := Try.prog, nilOwn := fun d => false, fldOwn := fun d i => false, ownPar := ownPars, ownRet := false, hpD := fun d => false, hpF := hpFs, hpNew := false, mask := f62_msk, fuel := k, C := f62_C c86 c87 }
noncomputable def f62_code : Code := Try.f62.body.getD .skip
noncomputable def f62_e (c86 : Int → (Int → R) → R) (c87 : PV → Int → (Bool → Int → R) → R) (ret0 : Bool → R) (p1 : PV) (n2 : Int) : R :=
  bif ((decide (n2 < (1 : Int))) == false) then
    c86 (PV.num (PV.fld p1 0)) fun n3 =>
    bif ((!(decide ((List.length (PV.els (PV.fld p1 3)) : Int) = n3))) == false) then
      bif ((!(decide ((PV.num (PV.fld p1 0)) = (2 : Int)))) == true) then
        bif (!(PV.beq (PV.fld p1 1) (PV.agg [(PV.int 0), (PV.int 0), (PV.int 0), (PV.int 0)]))) then
          ret0 false
        else bif ((decide ((PV.num (PV.fld p1 0)) = (6 : Int))) == true) then
          bif ((decide ((PV.num (PV.fld p1 2)) < (1 : Int))) == false) then
            bif ((decide ((32 : Int) < (PV.num (PV.fld p1 2)))) == false) then
              bif ((!(decide ((PV.num (PV.fld p1 0)) = (6 : Int)))) == true) then
                bif (!(decide ((PV.num (PV.fld p1 2)) = (0 : Int)))) then
                  ret0 false
                else c87 (PV.fld p1 3) n2 fun b4 n5 =>
                ret0 (!b4)
              else c87 (PV.fld p1 3) n2 fun b6 n7 =>
              ret0 (!b6)
            else ret0 false
          else ret0 false
        else bif ((!(decide ((PV.num (PV.fld p1 0)) = (6 : Int)))) == true) then
          bif (!(decide ((PV.num (PV.fld p1 2)) = (0 : Int)))) then
            ret0 false
          else c87 (PV.fld p1 3) n2 fun b8 n9 =>
          ret0 (!b8)
        else c87 (PV.fld p1 3) n2 fun b10 n11 =>
        ret0 (!b10)
      else bif ((decide ((PV.num (PV.fld p1 0)) = (6 : Int))) == true) then
        bif ((decide ((PV.num (PV.fld p1 2)) < (1 : Int))) == false) then
          bif ((decide ((32 : Int) < (PV.num (PV.fld p1 2)))) == false) then
            bif ((!(decide ((PV.num (PV.fld p1 0)) = (6 : Int)))) == true) then
              bif (!(decide ((PV.num (PV.fld p1 2)) = (0 : Int)))) then
                ret0 false
              else c87 (PV.fld p1 3) n2 fun b12 n13 =>
              ret0 (!b12)
            else c87 (PV.fld p1 3) n2 fun b14 n15 =>
            ret0 (!b14)
          else ret0 false
        else ret0 false
      else bif ((!(decide ((PV.num (PV.fld p1 0)) = (6 : Int)))) == true) then
        bif (!(decide ((PV.num (PV.fld p1 2)) = (0 : Int)))) then
          ret0 false
        else c87 (PV.fld p1 3) n2 fun b16 n17 =>
        ret0 (!b16)
      else c87 (PV.fld p1 3) n2 fun b18 n19 =>
      ret0 (!b18)
    else ret0 false
  else ret0 false

theorem f62_e_mem (k : Nat) (c86 : Int → (Int → R) → R) (c87 : PV → Int → (Bool → Int → R) → R) (retF : Bool → R) (p1 : PV) (n2 : Int) : exec (f62_E k c86 c87) f62_code (endK (f62_E k c86 c87) Try.f62 [] f62_un retF) ⟨[.val 28 p1, .int .i64 n2, .undef, .undef, .undef, .undef, .undef, .undef, .undef, .undef, .undef, .undef, .undef, .undef, .undef, .undef, .undef, .undef, .undef, .undef, .undef, .undef, .undef, .undef, .undef, .undef, .undef, .undef, .undef, .undef, .undef, .undef, .undef, .undef, .undef, .undef, .undef, .undef, .undef, .undef, .undef, .undef, .undef, .undef, .undef, .undef, .undef, .undef, .undef, .undef, .undef, .undef, .undef, .undef, .undef], []⟩ = f62_e c86 c87 (fun y0 => retF y0) p1 n2 := by kernel_rfl

noncomputable def f62_N (k : Nat) (c86 : Int → (Int → R) → R) (c87 : PV → Int → (Bool → Int → R) → R) (ret0 : Bool → R) (p1 : PV) (n2 : Int) : R :=
  f62_e c86 c87 ret0 p1 n2
theorem f62_eq (k : Nat) (c86 : Int → (Int → R) → R) (c87 : PV → Int → (Bool → Int → R) → R) (retF : Bool → R) (p1 : PV) (n2 : Int) : exec (f62_E k c86 c87) f62_code (endK (f62_E k c86 c87) Try.f62 [] f62_un retF) ⟨[.val 28 p1, .int .i64 n2, .undef, .undef, .undef, .undef, .undef, .undef, .undef, .undef, .undef, .undef, .undef, .undef, .undef, .undef, .undef, .undef, .undef, .undef, .undef, .undef, .undef, .undef, .undef, .undef, .undef, .undef, .undef, .undef, .undef, .undef, .undef, .undef, .undef, .undef, .undef, .undef, .undef, .undef, .undef, .undef, .undef, .undef, .undef, .undef, .undef, .undef, .undef, .undef, .undef, .undef, .undef, .undef, .undef], []⟩ = f62_N k c86 c87 (fun y0 => retF y0) p1 n2 :=
  (f62_e_mem k c86 c87 retF p1 n2)

mutual
noncomputable def G88 : Nat → PV → Int → (Bool → Int → R) → R
  | 0, _, _, _ => none
  | k + 1, p1, n2, ret0 => f88_N k (G62 k) ret0 p1 n2
noncomputable def G102 : Nat → PV → Int → (Int → Int → R) → R
  | 0, _, _, _ => none
  | k + 1, p1, n2, ret0 => f102_N k (G88 k) ret0 p1 n2
noncomputable def G87 : Nat → PV → Int → (Bool → Int → R) → R
  | 0, _, _, _ => none
  | k + 1, p1, n2, ret0 => f87_N k (G102 k) ret0 p1 n2
noncomputable def G62 : Nat → PV → Int → (Bool → R) → R
  | 0, _, _, _ => none
  | k + 1, p1, n2, ret0 => f62_N k (G86 k) (G87 k) ret0 p1 n2
end
mutual
theorem S88 : ∀ k, Snd Try.prog 88 f88_I f88_O (fun x ret => G88 k x.1 x.2 (fun y0 y1 => ret (y0, y1)))
  | 0 => snd_none
  | k + 1 => snd_step (E := f88_E k (G62 k)) rfl laidOut noNums (orc_ok (S62 k).o f62_D_ok orc0_ok) (f := 88) (fn := Try.f88) (code := f88_code) Try.func88 (by kernel_rfl) (drawsOk_of laidOut (orc_ok (S62 k).o f62_D_ok orc0_ok) mixed (by kernel_rfl)) f88_un f88_un_ok [4000000] (fun _ => rfl)
      (fun x ret => f88_eq k (G62 k) ret x.1 x.2)
theorem S102 : ∀ k, Snd Try.prog 102 f102_I f102_O (fun x ret => G102 k x.1 x.2 (fun y0 y1 => ret (y0, y1)))
  | 0 => snd_none
  | k + 1 => snd_step (E := f102_E k (G88 k)) rfl laidOut noNums (orc_ok (S88 k).o f88_D_ok orc0_ok) (f := 102) (fn := Try.f102) (code := f102_code) Try.func102 (by kernel_rfl) (drawsOk_of laidOut (orc_ok (S88 k).o f88_D_ok orc0_ok) mixed (by kernel_rfl)) f102_un f102_un_ok [4001000] (fun _ => rfl)
      (fun x ret => f102_eq k (G88 k) ret x.1 x.2)
theorem S87 : ∀ k, Snd Try.prog 87 f87_I f87_O (fun x ret => G87 k x.1 x.2 (fun y0 y1 => ret (y0, y1)))
  | 0 => snd_none
  | k + 1 => snd_step (E := f87_E k (G102 k)) rfl laidOut noNums (orc_ok (S102 k).o f102_D_ok orc0_ok) (f := 87) (fn := Try.f87) (code := f87_code) Try.func87 (by kernel_rfl) (drawsOk_of laidOut (orc_ok (S102 k).o f102_D_ok orc0_ok) mixed (by kernel_rfl)) f87_un f87_un_ok [4001000] (fun _ => rfl)
      (fun x ret => f87_eq k (G102 k) ret x.1 x.2)
theorem S62 : ∀ k, Snd Try.prog 62 f62_I f62_O (fun x ret => G62 k x.1 x.2 (fun y0 => ret y0))
  | 0 => snd_none
  | k + 1 => snd_step (E := f62_E k (G86 k) (G87 k)) rfl laidOut noNums (orc_ok (S86 k).o f86_D_ok (orc_ok (S87 k).o f87_D_ok orc0_ok)) (f := 62) (fn := Try.f62) (code := f62_code) Try.func62 (by kernel_rfl) (drawsOk_of laidOut (orc_ok (S86 k).o f86_D_ok (orc_ok (S87 k).o f87_D_ok orc0_ok)) mixed (by kernel_rfl)) f62_un f62_un_ok [] (fun _ => rfl)
      (fun x ret => f62_eq k (G86 k) (G87 k) ret x.1 x.2)
end

/- catchpole/core.Good -/
noncomputable def f31_I : PV → List SV × Obs := fun x => ([.val 28 x], [])
noncomputable def f31_D : List SV → Obs → Option (PV)
  | [.val 28 p1], [] => some p1
  | _, _ => none
theorem f31_D_ok (args : List SV) (B : Obs) (x : PV) (h : f31_D args B = some x) : f31_I x = (args, B) := by
  unfold f31_D at h
  split at h
  · injection h with h; subst h; rfl
  · cases h
noncomputable def f31_O : Bool → Out := (fun y => ([.bool y], []))
noncomputable def f31_un : Out → Option (Bool)
  | ([.bool y0], []) => some y0
  | _ => none
theorem f31_un_ok (o : Out) (y : Bool) (h : f31_un o = some y) : o = f31_O y := by
  unfold f31_un at h
  split at h
  · injection h with h; subst h; rfl
  · cases h
noncomputable def f31_msk : Nat → Option (List Nat) := fun key =>  none
noncomputable def f31_C (c23 : PV → (Int → R) → R) (c62 : PV → Int → (Bool → R) → R) : Oracle := orc 23 f23_D f23_O (fun x ret => c23 x (fun y0 => ret y0)) <| orc 62 f62_D f62_O (fun x ret => c62 x.1 x.2 (fun y0 => ret y0)) <| orc0
noncomputable def f31_E (k : Nat) (c23 : PV → (Int → R) → R) (c62 : PV → Int → (Bool → R) → R) : Env := { P := Try.prog, nilOwn := fun d => false, fldOwn := fun d i => false, ownPar := ownPars, ownRet := false, hpD := fun d => false, hpF := hpFs, hpNew := false, mask := f31_msk, fuel := k, C := f31_C c23 c62 }
noncomputable def f31_code : Code := Try.f31.body.getD .skip
noncomputable def f31_e (c23 : PV → (Int → R) → R) (c62 : PV → Int → (Bool → R) → R) (ret0 : Bool → R) (p1 : PV) : R :=
  c23 p1 fun n2 =>
  bif ((decide (n2 ≤ (2000 : Int))) == true) then
    c62 p1 8000 fun b3 =>
    ret0 b3
  else ret0 false

theorem f31_e_mem (k : Nat) (c23 : PV → (Int → R) → R) (c62 : PV → Int → (Bool → R) → R) (retF : Bool → R) (p1 : PV) : exec (f31_E k c23 c62) f31_code (endK (f31_E k c23 c62) Try.f31 [] f31_un retF) ⟨[.val 28 p1, .undef, .undef, .undef, .undef, .undef, .undef, .undef, .undef, .undef], []⟩ = f31_e c23 c62 (fun y0 => retF y0) p1 := by kernel_rfl

noncomputable def f31_N (k : Nat) (c23 : PV → (Int → R) → R) (c62 : PV → Int → (Bool → R) → R) (ret0 : Bool → R) (p1 : PV) : R :=
  f31_e c23 c62 ret0 p1
theorem f31_eq (k : Nat) (c23 : PV → (Int → R) → R) (c62 : PV → Int → (Bool → R) → R) (retF : Bool → R) (p1 : PV) : exec (f31_E k c23 c62) f31_code (endK (f31_E k c23 c62) Try.f31 [] f31_un retF) ⟨[.val 28 p1, .undef, .undef, .undef, .undef, .undef, .undef, .undef, .undef, .undef], []⟩ = f31_N k c23 c62 (fun y0 => retF y0) p1 :=
  (f31_e_mem k c23 c62 retF p1)

noncomputable def G31 : Nat → PV → (Bool → R) → R
  | 0, _, _ => none
  | k + 1, p1, ret0 => f31_N k (G23 k) (G62 k) ret0 p1
theorem S31 : ∀ k, Snd Try.prog 31 f31_I f31_O (fun x ret => G31 k x (fun y0 => ret y0))
  | 0 => snd_none
  | k + 1 => snd_step (E := f31_E k (G23 k) (G62 k)) rfl laidOut noNums (orc_ok (S23 k).o f23_D_ok (orc_ok (S62 k).o f62_D_ok orc0_ok)) (f := 31) (fn := Try.f31) (code := f31_code) Try.func31 (by kernel_rfl) (drawsOk_of laidOut (orc_ok (S23 k).o f23_D_ok (orc_ok (S62 k).o f62_D_ok orc0_ok)) mixed (by kernel_rfl)) f31_un f31_un_ok [] (fun _ => rfl)
      (fun x ret => f31_eq k (G23 k) (G62 k) ret x)

/- catchpole/span.May -/
noncomputable def f49_I : PV × PV → List SV × Obs := fun x => ([.val 28 x.1, .val 36 x.2], [])
noncomputable def f49_D : List SV → Obs → Option (PV × PV)
  | [.val 28 p1, .val 36 p2], [] => some (p1, p2)
  | _, _ => none
theorem f49_D_ok (args : List SV) (B : Obs) (x : PV × PV) (h : f49_D args B = some x) : f49_I x = (args, B) := by
  unfold f49_D at h
  split at h
  · injection h with h; subst h; rfl
  · cases h
noncomputable def f49_O : Int → Out := (fun y => ([.int .i64 y], []))
noncomputable def f49_un : Out → Option (Int)
  | ([.int .i64 y0], []) => some y0
  | _ => none
theorem f49_un_ok (o : Out) (y : Int) (h : f49_un o = some y) : o = f49_O y := by
  unfold f49_un at h
  split at h
  · injection h with h; subst h; rfl
  · cases h
noncomputable def f49_msk : Nat → Option (List Nat) := fun key =>  none
noncomputable def f49_C (c23 : PV → (Int → R) → R) (c31 : PV → (Bool → R) → R) : Oracle := orc 23 f23_D f23_O (fun x ret => c23 x (fun y0 => ret y0)) <| orc 31 f31_D f31_O (fun x ret => c31 x (fun y0 => ret y0)) <| orc0
noncomputable def f49_E (k : Nat) (c23 : PV → (Int → R) → R) (c31 : PV → (Bool → R) → R) : Env := { P := Try.prog, nilOwn := fun d => false, fldOwn := fun d i => false, ownPar := ownPars, ownRet := false, hpD := fun d => false, hpF := hpFs, hpNew := false, mask := f49_msk, fuel := k, C := f49_C c23 c31 }
noncomputable def f49_code : Code := Try.f49.body.getD .skip
noncomputable def f49_e (c23 : PV → (Int → R) → R) (c31 : PV → (Bool → R) → R) (ret0 : Int → R) (p1 : PV) (p2 : PV) : R :=
  c31 p1 fun b3 =>
  bif ((!b3) == false) then
    bif (decide ((256 : Int) < (List.length (PV.els p2) : Int))) then
      ret0 1
    else c23 p1 fun n4 =>
    let n5 : Int := (IntKind.wrap .i64 ((IntKind.wrap .i64 (n4 * (IntKind.wrap .i64 ((List.length (PV.els p2) : Int) + (1 : Int))))) * (IntKind.wrap .i64 ((List.length (PV.els p2) : Int) + (1 : Int)))))
    bif (decide ((4000000 : Int) < n5)) then
      ret0 4
    else ret0 0
  else ret0 1

theorem f49_e_mem (k : Nat) (c23 : PV → (Int → R) → R) (c31 : PV → (Bool → R) → R) (retF : Int → R) (p1 : PV) (p2 : PV) : exec (f49_E k c23 c31) f49_code (endK (f49_E k c23 c31) Try.f49 [] f49_un retF) ⟨[.val 28 p1, .val 36 p2, .undef, .undef, .undef, .undef, .undef, .undef, .undef, .undef, .undef, .undef, .undef, .undef, .undef, .undef, .undef, .undef, .undef, .undef, .undef, .undef, .undef, .undef, .undef, .undef], []⟩ = f49_e c23 c31 (fun y0 => retF y0) p1 p2 := by kernel_rfl

noncomputable def f49_N (k : Nat) (c23 : PV → (Int → R) → R) (c31 : PV → (Bool → R) → R) (ret0 : Int → R) (p1 : PV) (p2 : PV) : R :=
  f49_e c23 c31 ret0 p1 p2
theorem f49_eq (k : Nat) (c23 : PV → (Int → R) → R) (c31 : PV → (Bool → R) → R) (retF : Int → R) (p1 : PV) (p2 : PV) : exec (f49_E k c23 c31) f49_code (endK (f49_E k c23 c31) Try.f49 [] f49_un retF) ⟨[.val 28 p1, .val 36 p2, .undef, .undef, .undef, .undef, .undef, .undef, .undef, .undef, .undef, .undef, .undef, .undef, .undef, .undef, .undef, .undef, .undef, .undef, .undef, .undef, .undef, .undef, .undef, .undef], []⟩ = f49_N k c23 c31 (fun y0 => retF y0) p1 p2 :=
  (f49_e_mem k c23 c31 retF p1 p2)

noncomputable def G49 : Nat → PV → PV → (Int → R) → R
  | 0, _, _, _ => none
  | k + 1, p1, p2, ret0 => f49_N k (G23 k) (G31 k) ret0 p1 p2
theorem S49 : ∀ k, Snd Try.prog 49 f49_I f49_O (fun x ret => G49 k x.1 x.2 (fun y0 => ret y0))
  | 0 => snd_none
  | k + 1 => snd_step (E := f49_E k (G23 k) (G31 k)) rfl laidOut noNums (orc_ok (S23 k).o f23_D_ok (orc_ok (S31 k).o f31_D_ok orc0_ok)) (f := 49) (fn := Try.f49) (code := f49_code) Try.func49 (by kernel_rfl) (drawsOk_of laidOut (orc_ok (S23 k).o f23_D_ok (orc_ok (S31 k).o f31_D_ok orc0_ok)) mixed (by kernel_rfl)) f49_un f49_un_ok [] (fun _ => rfl)
      (fun x ret => f49_eq k (G23 k) (G31 k) ret x.1 x.2)

/- (*catchpole/lang.Table).add -/
noncomputable def f72_I : PV × PV × (List HE) → List SV × Obs := fun x => ([.hval 87 x.1, .val 28 x.2.1], [(1000000000000, .hp x.2.2)])
noncomputable def f72_D : List SV → Obs → Option (PV × PV × (List HE))
  | [.hval 87 p1, .val 28 p2], [(1000000000000, .hp h3)] => some (p1, p2, h3)
  | _, _ => none
theorem f72_D_ok (args : List SV) (B : Obs) (x : PV × PV × (List HE)) (h : f72_D args B = some x) : f72_I x = (args, B) := by
  unfold f72_D at h
  split at h
  · injection h with h; subst h; rfl
  · cases h
noncomputable def f72_O : Int × (List HE) → Out := (fun y => ([.int .i64 y.1], [(1000000000000, .hp y.2)]))
noncomputable def f72_un : Out → Option (Int × (List HE))
  | ([.int .i64 y0], [(1000000000000, .hp y1)]) => some (y0, y1)
  | _ => none
theorem f72_un_ok (o : Out) (y : Int × (List HE)) (h : f72_un o = some y) : o = f72_O y := by
  unfold f72_un at h
  split at h
  · injection h with h; subst h; rfl
  · cases h
noncomputable def f72_msk : Nat → Option (List Nat) := fun key => bif key == 12 then some [0, 5, 26, 27, 28] else none
noncomputable def f72_C (c72 : PV → PV → (List HE) → (Int → (List HE) → R) → R) : Oracle := orc 72 f72_D f72_O (fun x ret => c72 x.1 x.2.1 x.2.2 (fun y0 y1 => ret (y0, y1))) <| orc0
noncomputable def f72_E (k : Nat) (c72 : PV → PV → (List HE) → (Int → (List HE) → R) → R) : Env := { P := Try.prog, nilOwn := fun d => false, fldOwn := fun d i => false, ownPar := ownPars, ownRet := false, hpD := fun d => d == 20 || d == 21 || d == 49, hpF := hpFs, hpNew := false, mask := f72_msk, fuel := k, C := f72_C c72 }
noncomputable def f72_code : Code := Try.f72.body.getD .skip
noncomputable def f72_cw1 : Code := subC f72_code [1, 1, 1, 0, 1, 0, 0]
noncomputable def f72_hw1_0 (p1 : PV) (p2 : PV) (h3 : List HE) (n13 : Int) (h14 : List HE) : St := ⟨[.hval 87 p1, .dead, .dead, .dead, .dead, .int .i64 ((PV.rN (PV.fld (hvarOf h3 (PV.rI p1)) 0)) : Int), .dead, .dead, .dead, .dead, .dead, .dead, .dead, .dead, .dead, .dead, .dead, .dead, .dead, .dead, .dead, .dead, .dead, .dead, .dead, .dead, .val 26 (PV.fld p2 3), .int .i64 (List.length (PV.els (PV.fld p2 3)) : Int), .int .i64 n13, .dead, .dead, .dead, .dead, .dead, .dead, .dead, .dead, .dead, .dead, .dead, .dead, .dead, .dead, .dead, .dead, .dead, .dead, .dead, .dead, .dead, .dead, .dead, .dead, .dead, .dead], [(1000000000000, .hp h14)]⟩
noncomputable def f72_w1A (k : Nat) (c72 : PV → PV → (List HE) → (Int → (List HE) → R) → R) (retF : Int × (List HE) → R) (p1 : PV) (p2 : PV) (h3 : List HE) (n13 : Int) (h14 : List HE) : R := loopM (f72_E k c72) f72_cw1 (kont (f72_E k c72) f72_code [1, 1, 1, 0, 1, 0] (endK (f72_E k c72) Try.f72 [1000000000000] f72_un retF)) k (f72_hw1_0 p1 p2 h3 n13 h14)
noncomputable def f72_w1b0 (c72 : PV → PV → (List HE) → (Int → (List HE) → R) → R) (ret0 : Int → (List HE) → R) (next_w1_0 : Int → (List HE) → R) (p1 : PV) (p2 : PV) (h3 : List HE) (n13 : Int) (h14 : List HE) : R :=
  bif (decide (n13 < (List.length (PV.els (PV.fld p2 3)) : Int))) then
    bif (true && decide ((0 : Int) ≤ n13) && decide (n13 < (List.length (PV.els (PV.fld p2 3)) : Int))) then
      c72 p1 (List.getD (PV.els (PV.fld p2 3)) (n13).toNat PV.nil) h14 fun n15 h16 =>
      bif (PV.isRp p1) then
        bif (true && true && (hokV h16 116 (PV.rI p1))) then
          bif (PV.isRp p1) then
            bif (true && true && (hokV h16 116 (PV.rI p1))) then
              bif (true && decide ((0 : Int) ≤ ((PV.rN (PV.fld (hvarOf h3 (PV.rI p1)) 0)) : Int)) && decide (((PV.rN (PV.fld (hvarOf h3 (PV.rI p1)) 0)) : Int) < ((PV.rN (PV.fld (hvarOf h16 (PV.rI p1)) 0)) : Int))) then
                bif (true && true && (hokR h16 122 (PV.rI (PV.fld (hvarOf h16 (PV.rI p1)) 0)) ((PV.rN (PV.fld (hvarOf h3 (PV.rI p1)) 0)) : Int))) then
                  let p17 : PV := (PV.fld (List.getD (hrowOf h16 (PV.rI (PV.fld (hvarOf h16 (PV.rI p1)) 0))) (((PV.rN (PV.fld (hvarOf h3 (PV.rI p1)) 0)) : Int)).toNat PV.nil) 1)
                  let h18 : List HE := (h16 ++ [HE.row 3 [(PV.int n15)]])
                  bif (true && true && (hokV h18 116 (PV.rI p1))) then
                    bif (PV.beq (PV.fld (hvarOf h18 (PV.rI p1)) 0) (PV.fld (hvarOf h16 (PV.rI p1)) 0)) then
                      bif (hokS h18 3 p17 && hokS h18 3 (PV.rs (List.length h16) 1) && true && true && true && true && true && true && ((PV.isRs p17) || decide (0 < 1)) && roomy ((PV.rN p17) + 1) 8) then
                        let h19 : List HE := (hgone h18 p17 ++ [HE.row 3 (hels h18 p17 ++ hels h18 (PV.rs (List.length h16) 1))])
                        bif (true && true && (hokV h19 116 (PV.rI p1))) then
                          bif (PV.beq (PV.fld (hvarOf h19 (PV.rI p1)) 0) (PV.fld (hvarOf h16 (PV.rI p1)) 0)) then
                            bif (true && decide ((0 : Int) ≤ ((PV.rN (PV.fld (hvarOf h3 (PV.rI p1)) 0)) : Int)) && decide (((PV.rN (PV.fld (hvarOf h3 (PV.rI p1)) 0)) : Int) < ((PV.rN (PV.fld (hvarOf h16 (PV.rI p1)) 0)) : Int))) then
                              bif (true && (hokR h19 122 (PV.rI (PV.fld (hvarOf h16 (PV.rI p1)) 0)) ((PV.rN (PV.fld (hvarOf h3 (PV.rI p1)) 0)) : Int))) then
                                let h20 : List HE := (List.set h19 (PV.rI (PV.fld (hvarOf h16 (PV.rI p1)) 0)) (HE.row 122 (List.set (hrowOf h19 (PV.rI (PV.fld (hvarOf h16 (PV.rI p1)) 0))) (((PV.rN (PV.fld (hvarOf h3 (PV.rI p1)) 0)) : Int)).toNat (PV.agg (List.set (PV.flds (List.getD (hrowOf h19 (PV.rI (PV.fld (hvarOf h16 (PV.rI p1)) 0))) (((PV.rN (PV.fld (hvarOf h3 (PV.rI p1)) 0)) : Int)).toNat PV.nil)) 1 (PV.rs (List.length h18) ((PV.rN p17) + 1)))))))
                                next_w1_0 (IntKind.wrap .i64 (n13 + (1 : Int))) h20
                              else none
                            else none
                          else none
                        else none
                      else none
                    else none
                  else none
                else none
              else none
            else none
          else none
        else none
      else none
    else none
  else ret0 ((PV.rN (PV.fld (hvarOf h3 (PV.rI p1)) 0)) : Int) h14

theorem f72_w1b0_mem (k : Nat) (c72 : PV → PV → (List HE) → (Int → (List HE) → R) → R) (retF : Int × (List HE) → R) (NX_w1 : St → R) (p1 : PV) (p2 : PV) (h3 : List HE) (n13 : Int) (h14 : List HE) : exec (f72_E k c72) f72_cw1 (purgeK (f72_E k c72) f72_cw1 (loopK NX_w1 (kont (f72_E k c72) f72_code [1, 1, 1, 0, 1, 0] (endK (f72_E k c72) Try.f72 [1000000000000] f72_un retF)))) (f72_hw1_0 p1 p2 h3 n13 h14) = f72_w1b0 c72 (fun y0 y1 => retF (y0, y1)) (fun n13 h14 => NX_w1 (f72_hw1_0 p1 p2 h3 n13 h14)) p1 p2 h3 n13 h14 := by kernel_rfl

noncomputable def f72_w1b0N (k : Nat) (c72 : PV → PV → (List HE) → (Int → (List HE) → R) → R) (ret0 : Int → (List HE) → R) (next_w1_0 : Int → (List HE) → R) (p1 : PV) (p2 : PV) (h3 : List HE) (n13 : Int) (h14 : List HE) : R :=
  f72_w1b0 c72 ret0 next_w1_0 p1 p2 h3 n13 h14
theorem f72_w1b0_eq (k : Nat) (c72 : PV → PV → (List HE) → (Int → (List HE) → R) → R) (retF : Int × (List HE) → R) (NX_w1 : St → R) (p1 : PV) (p2 : PV) (h3 : List HE) (n13 : Int) (h14 : List HE) : exec (f72_E k c72) f72_cw1 (purgeK (f72_E k c72) f72_cw1 (loopK NX_w1 (kont (f72_E k c72) f72_code [1, 1, 1, 0, 1, 0] (endK (f72_E k c72) Try.f72 [1000000000000] f72_un retF)))) (f72_hw1_0 p1 p2 h3 n13 h14) = f72_w1b0N k c72 (fun y0 y1 => retF (y0, y1)) (fun n13 h14 => NX_w1 (f72_hw1_0 p1 p2 h3 n13 h14)) p1 p2 h3 n13 h14 :=
  (f72_w1b0_mem k c72 retF NX_w1 p1 p2 h3 n13 h14)

noncomputable def f72_w1B (k : Nat) (c72 : PV → PV → (List HE) → (Int → (List HE) → R) → R) (ret0 : Int → (List HE) → R) (p1 : PV) (p2 : PV) (h3 : List HE) (nx : Int × (List HE) → R) : Int × (List HE) → R := (fun s => f72_w1b0N k c72 ret0 (fun n13 h14 => nx (n13, h14)) p1 p2 h3 s.1 s.2)
noncomputable def f72_w1N (k : Nat) (c72 : PV → PV → (List HE) → (Int → (List HE) → R) → R) (ret0 : Int → (List HE) → R) (p1 : PV) (p2 : PV) (h3 : List HE) (n13 : Int) (h14 : List HE) : R := loopR (f72_w1B k c72 ret0 p1 p2 h3) k (n13, h14)
theorem f72_w1_eq (k : Nat) (c72 : PV → PV → (List HE) → (Int → (List HE) → R) → R) (retF : Int × (List HE) → R) (p1 : PV) (p2 : PV) (h3 : List HE) (n13 : Int) (h14 : List HE) : f72_w1A k c72 retF p1 p2 h3 n13 h14 = f72_w1N k c72 (fun y0 y1 => retF (y0, y1)) p1 p2 h3 n13 h14 :=
  Eq.mp (by kernel_rfl) (loop_sim (E := (f72_E k c72)) (c := f72_cw1) (K := (kont (f72_E k c72) f72_code [1, 1, 1, 0, 1, 0] (endK (f72_E k c72) Try.f72 [1000000000000] f72_un retF))) (S := Int × (List HE)) (fun s => f72_hw1_0 p1 p2 h3 s.1 s.2) (f72_w1B k c72 (fun y0 y1 => retF (y0, y1)) p1 p2 h3) (fun NX s => by
    exact Eq.mp (by kernel_rfl) (f72_w1b0_eq k c72 retF NX p1 p2 h3 s.1 s.2)) k (n13, h14))

noncomputable def f72_e (c72 : PV → PV → (List HE) → (Int → (List HE) → R) → R) (ret0 : Int → (List HE) → R) (w1 : Int → (List HE) → R) (p1 : PV) (p2 : PV) (h3 : List HE) : R :=
  bif (PV.isRp p1) then
    bif (true && true && (hokV h3 116 (PV.rI p1))) then
      bif (PV.isRp p1) then
        bif (true && true && (hokV h3 116 (PV.rI p1))) then
          let h4 : List HE := (h3 ++ [HE.row 122 [(PV.agg [p2, (PV.list [])])]])
          bif (hokS h4 122 (PV.fld (hvarOf h3 (PV.rI p1)) 0) && hokS h4 122 (PV.rs (List.length h3) 1) && true && true && true && true && true && true && ((PV.isRs (PV.fld (hvarOf h3 (PV.rI p1)) 0)) || decide (0 < 1)) && roomy ((PV.rN (PV.fld (hvarOf h3 (PV.rI p1)) 0)) + 1) 96) then
            let h5 : List HE := (hgone h4 (PV.fld (hvarOf h3 (PV.rI p1)) 0) ++ [HE.row 122 (hels h4 (PV.fld (hvarOf h3 (PV.rI p1)) 0) ++ hels h4 (PV.rs (List.length h3) 1))])
            bif (PV.isRp p1) then
              bif (true && (hokV h5 116 (PV.rI p1))) then
                let h6 : List HE := (List.set h5 (PV.rI p1) (HE.var 116 (PV.agg (List.set (PV.flds (hvarOf h5 (PV.rI p1))) 0 (PV.rs (List.length h4) ((PV.rN (PV.fld (hvarOf h3 (PV.rI p1)) 0)) + 1))))))
                w1 0 h6
              else none
            else none
          else none
        else none
      else none
    else none
  else none

theorem f72_e_mem (k : Nat) (c72 : PV → PV → (List HE) → (Int → (List HE) → R) → R) (retF : Int × (List HE) → R) (p1 : PV) (p2 : PV) (h3 : List HE) : exec (f72_E k c72) f72_code (endK (f72_E k c72) Try.f72 [1000000000000] f72_un retF) ⟨[.hval 87 p1, .val 28 p2, .undef, .undef, .undef, .undef, .undef, .undef, .undef, .undef, .undef, .undef, .undef, .undef, .undef, .undef, .undef, .undef, .undef, .undef, .undef, .undef, .undef, .undef, .undef, .undef, .undef, .undef, .undef, .undef, .undef, .undef, .undef, .undef, .undef, .undef, .undef, .undef, .undef, .undef, .undef, .undef, .undef, .undef, .undef, .undef, .undef, .undef, .undef, .undef, .undef, .undef, .undef, .undef, .undef], [(1000000000000, .hp h3)]⟩ = f72_e c72 (fun y0 y1 => retF (y0, y1)) (fun n13 h14 => f72_w1A k c72 retF p1 p2 h3 n13 h14) p1 p2 h3 := by kernel_rfl

noncomputable def f72_N (k : Nat) (c72 : PV → PV → (List HE) → (Int → (List HE) → R) → R) (ret0 : Int → (List HE) → R) (p1 : PV) (p2 : PV) (h3 : List HE) : R :=
  f72_e c72 ret0 (fun n13 h14 => f72_w1N k c72 ret0 p1 p2 h3 n13 h14) p1 p2 h3
theorem f72_eq (k : Nat) (c72 : PV → PV → (List HE) → (Int → (List HE) → R) → R) (retF : Int × (List HE) → R) (p1 : PV) (p2 : PV) (h3 : List HE) : exec (f72_E k c72) f72_code (endK (f72_E k c72) Try.f72 [1000000000000] f72_un retF) ⟨[.hval 87 p1, .val 28 p2, .undef, .undef, .undef, .undef, .undef, .undef, .undef, .undef, .undef, .undef, .undef, .undef, .undef, .undef, .undef, .undef, .undef, .undef, .undef, .undef, .undef, .undef, .undef, .undef, .undef, .undef, .undef, .undef, .undef, .undef, .undef, .undef, .undef, .undef, .undef, .undef, .undef, .undef, .undef, .undef, .undef, .undef, .undef, .undef, .undef, .undef, .undef, .undef, .undef, .undef, .undef, .undef, .undef], [(1000000000000, .hp h3)]⟩ = f72_N k c72 (fun y0 y1 => retF (y0, y1)) p1 p2 h3 :=
  (f72_e_mem k c72 retF p1 p2 h3).trans (by rw [show (fun n13 h14 => f72_w1A k c72 retF p1 p2 h3 n13 h14) = (fun n13 h14 => f72_w1N k c72 (fun y0 y1 => retF (y0, y1)) p1 p2 h3 n13 h14) from funext fun n13 => funext fun h14 => f72_w1_eq k c72 retF p1 p2 h3 n13 h14]; rfl)

noncomputable def G72 : Nat → PV → PV → (List HE) → (Int → (List HE) → R) → R
  | 0, _, _, _, _ => none
  | k + 1, p1, p2, h3, ret0 => f72_N k (G72 k) ret0 p1 p2 h3
theorem S72 : ∀ k, Snd Try.prog 72 f72_I f72_O (fun x ret => G72 k x.1 x.2.1 x.2.2 (fun y0 y1 => ret (y0, y1)))
  | 0 => snd_none
  | k + 1 => snd_step (E := f72_E k (G72 k)) rfl laidOut noNums (orc_ok (S72 k).o f72_D_ok orc0_ok) (f := 72) (fn := Try.f72) (code := f72_code) Try.func72 (by kernel_rfl) (drawsOk_of laidOut (orc_ok (S72 k).o f72_D_ok orc0_ok) mixed (by kernel_rfl)) f72_un f72_un_ok [1000000000000] (fun _ => rfl)
      (fun x ret => f72_eq k (G72 k) ret x.1 x.2.1 x.2.2)

/- catchpole/lang.New -/
noncomputable def f50_I : PV × PV × (List HE) → List SV × Obs := fun x => ([.val 28 x.1, .val 36 x.2.1], [(1000000000000, .hp x.2.2)])
noncomputable def f50_D : List SV → Obs → Option (PV × PV × (List HE))
  | [.val 28 p1, .val 36 p2], [(1000000000000, .hp h3)] => some (p1, p2, h3)
  | _, _ => none
theorem f50_D_ok (args : List SV) (B : Obs) (x : PV × PV × (List HE)) (h : f50_D args B = some x) : f50_I x = (args, B) := by
  unfold f50_D at h
  split at h
  · injection h with h; subst h; rfl
  · cases h
noncomputable def f50_O : PV × (List HE) → Out := (fun y => ([.hval 87 y.1], [(1000000000000, .hp y.2)]))
noncomputable def f50_un : Out → Option (PV × (List HE))
  | ([.hval 87 y0], [(1000000000000, .hp y1)]) => some (y0, y1)
  | _ => none
theorem f50_un_ok (o : Out) (y : PV × (List HE)) (h : f50_un o = some y) : o = f50_O y := by
  unfold f50_un at h
  split at h
  · injection h with h; subst h; rfl
  · cases h
noncomputable def f50_msk : Nat → Option (List Nat) := fun key =>  none
noncomputable def f50_C (c72 : PV → PV → (List HE) → (Int → (List HE) → R) → R) : Oracle := orc 72 f72_D f72_O (fun x ret => c72 x.1 x.2.1 x.2.2 (fun y0 y1 => ret (y0, y1))) <| orc0
noncomputable def f50_E (k : Nat) (c72 : PV → PV → (List HE) → (Int → (List HE) → R) → R) : Env := { P := Try.prog, nilOwn := fun d => false, fldOwn := fun d i => false, ownPar := ownPars, ownRet := false, hpD := fun d => d == 7 || d == 8 || d == 18, hpF := hpFs, hpNew := false, mask := f50_msk, fuel := k, C := f50_C c72 }
noncomputable def f50_code : Code := Try.f50.body.getD .skip
noncomputable def f50_e (c72 : PV → PV → (List HE) → (Int → (List HE) → R) → R) (ret0 : PV → (List HE) → R) (p1 : PV) (p2 : PV) (h3 : List HE) : R :=
  let h4 : List HE := (h3 ++ [HE.var 116 (PV.agg [(PV.list []), p2, (PV.list [])])])
  c72 (PV.rp (List.length h3)) p1 h4 fun n5 h6 =>
  bif (true && true && (hokV h6 116 (List.length h3))) then
    bif (true && (true && decide ((0 : Int) ≤ ((PV.rN (PV.fld (hvarOf h6 (List.length h3)) 0)) : Int)) && decide (((PV.rN (PV.fld (hvarOf h6 (List.length h3)) 0)) : Int) = ((PV.rN (PV.fld (hvarOf h6 (List.length h3)) 0)) : Int)) && roomy (((PV.rN (PV.fld (hvarOf h6 (List.length h3)) 0)) : Int)).toNat 24)) then
      let h7 : List HE := (h6 ++ [HE.row 149 (List.replicate (((PV.rN (PV.fld (hvarOf h6 (List.length h3)) 0)) : Int)).toNat (PV.list []))])
      bif (true && (hokV h7 116 (List.length h3))) then
        let h8 : List HE := (List.set h7 (List.length h3) (HE.var 116 (PV.agg (List.set (PV.flds (hvarOf h7 (List.length h3))) 2 (PV.rs (List.length h6) (((PV.rN (PV.fld (hvarOf h6 (List.length h3)) 0)) : Int)).toNat)))))
        ret0 (PV.rp (List.length h3)) h8
      else none
    else none
  else none

theorem f50_e_mem (k : Nat) (c72 : PV → PV → (List HE) → (Int → (List HE) → R) → R) (retF : PV × (List HE) → R) (p1 : PV) (p2 : PV) (h3 : List HE) : exec (f50_E k c72) f50_code (endK (f50_E k c72) Try.f50 [1000000000000] f50_un retF) ⟨[.val 28 p1, .val 36 p2, .undef, .undef, .undef, .undef, .undef, .undef, .undef, .undef, .undef, .undef, .undef, .undef, .undef, .undef, .undef, .undef, .undef, .undef, .undef, .undef], [(1000000000000, .hp h3)]⟩ = f50_e c72 (fun y0 y1 => retF (y0, y1)) p1 p2 h3 := by kernel_rfl

noncomputable def f50_N (k : Nat) (c72 : PV → PV → (List HE) → (Int → (List HE) → R) → R) (ret0 : PV → (List HE) → R) (p1 : PV) (p2 : PV) (h3 : List HE) : R :=
  f50_e c72 ret0 p1 p2 h3
theorem f50_eq (k : Nat) (c72 : PV → PV → (List HE) → (Int → (List HE) → R) → R) (retF : PV × (List HE) → R) (p1 : PV) (p2 : PV) (h3 : List HE) : exec (f50_E k c72) f50_code (endK (f50_E k c72) Try.f50 [1000000000000] f50_un retF) ⟨[.val 28 p1, .val 36 p2, .undef, .undef, .undef, .undef, .undef, .undef, .undef, .undef, .undef, .undef, .undef, .undef, .undef, .undef, .undef, .undef, .undef, .undef, .undef, .undef], [(1000000000000, .hp h3)]⟩ = f50_N k c72 (fun y0 y1 => retF (y0, y1)) p1 p2 h3 :=
  (f50_e_mem k c72 retF p1 p2 h3)

noncomputable def G50 : Nat → PV → PV → (List HE) → (PV → (List HE) → R) → R
  | 0, _, _, _, _ => none
  | k + 1, p1, p2, h3, ret0 => f50_N k (G72 k) ret0 p1 p2 h3
theorem S50 : ∀ k, Snd Try.prog 50 f50_I f50_O (fun x ret => G50 k x.1 x.2.1 x.2.2 (fun y0 y1 => ret (y0, y1)))
  | 0 => snd_none
  | k + 1 => snd_step (E := f50_E k (G72 k)) rfl laidOut noNums (orc_ok (S72 k).o f72_D_ok orc0_ok) (f := 50) (fn := Try.f50) (code := f50_code) Try.func50 (by kernel_rfl) (drawsOk_of laidOut (orc_ok (S72 k).o f72_D_ok orc0_ok) mixed (by kernel_rfl)) f50_un f50_un_ok [1000000000000] (fun _ => rfl)
      (fun x ret => f50_eq k (G72 k) ret x.1 x.2.1 x.2.2)

/- catchpole/span.New -/
noncomputable def f17_I : PV × PV × (List HE) → List SV × Obs := fun x => ([.val 28 x.1, .val 36 x.2.1], [(1000000000000, .hp x.2.2)])
noncomputable def f17_D : List SV → Obs → Option (PV × PV × (List HE))
  | [.val 28 p1, .val 36 p2], [(1000000000000, .hp h3)] => some (p1, p2, h3)
  | _, _ => none
theorem f17_D_ok (args : List SV) (B : Obs) (x : PV × PV × (List HE)) (h : f17_D args B = some x) : f17_I x = (args, B) := by
  unfold f17_D at h
  split at h
  · injection h with h; subst h; rfl
  · cases h
noncomputable def f17_O : PV × Int × (List HE) → Out := (fun y => ([.hval 32 y.1, .int .i64 y.2.1], [(1000000000000, .hp y.2.2)]))
noncomputable def f17_un : Out → Option (PV × Int × (List HE))
  | ([.hval 32 y0, .int .i64 y1], [(1000000000000, .hp y2)]) => some (y0, y1, y2)
  | _ => none
theorem f17_un_ok (o : Out) (y : PV × Int × (List HE)) (h : f17_un o = some y) : o = f17_O y := by
  unfold f17_un at h
  split at h
  · injection h with h; subst h; rfl
  · cases h
noncomputable def f17_msk : Nat → Option (List Nat) := fun key =>  none
noncomputable def f17_C (c49 : PV → PV → (Int → R) → R) (c50 : PV → PV → (List HE) → (PV → (List HE) → R) → R) : Oracle := orc 49 f49_D f49_O (fun x ret => c49 x.1 x.2 (fun y0 => ret y0)) <| orc 50 f50_D f50_O (fun x ret => c50 x.1 x.2.1 x.2.2 (fun y0 y1 => ret (y0, y1))) <| orc0
noncomputable def f17_E (k : Nat) (c49 : PV → PV → (Int → R) → R) (c50 : PV → PV → (List HE) → (PV → (List HE) → R) → R) : Env := { P := Try.prog, nilOwn := fun d => false, fldOwn := fun d i => false, ownPar := ownPars, ownRet := false, hpD := fun d => d == 18 || d == 19, hpF := hpFs, hpNew := false, mask := f17_msk, fuel := k, C := f17_C c49 c50 }
noncomputable def f17_code : Code := Try.f17.body.getD .skip
noncomputable def f17_e (c49 : PV → PV → (Int → R) → R) (c50 : PV → PV → (List HE) → (PV → (List HE) → R) → R) (ret0 : PV → Int → (List HE) → R) (p1 : PV) (p2 : PV) (h3 : List HE) : R :=
  c49 p1 p2 fun n4 =>
  bif (!(decide (n4 = (0 : Int)))) then
    ret0 PV.nil n4 h3
  else c50 p1 p2 h3 fun p5 h6 =>
  let h7 : List HE := (h6 ++ [HE.var 90 (PV.agg [p5, (PV.int (List.length (PV.els p2) : Int))])])
  ret0 (PV.rp (List.length h6)) 0 h7

theorem f17_e_mem (k : Nat) (c49 : PV → PV → (Int → R) → R) (c50 : PV → PV → (List HE) → (PV → (List HE) → R) → R) (retF : PV × Int × (List HE) → R) (p1 : PV) (p2 : PV) (h3 : List HE) : exec (f17_E k c49 c50) f17_code (endK (f17_E k c49 c50) Try.f17 [1000000000000] f17_un retF) ⟨[.val 28 p1, .val 36 p2, .undef, .undef, .undef, .undef, .undef, .undef, .undef, .undef, .undef, .undef, .undef, .undef, .undef, .undef, .undef, .undef, .undef, .undef], [(1000000000000, .hp h3)]⟩ = f17_e c49 c50 (fun y0 y1 y2 => retF (y0, y1, y2)) p1 p2 h3 := by kernel_rfl

noncomputable def f17_N (k : Nat) (c49 : PV → PV → (Int → R) → R) (c50 : PV → PV → (List HE) → (PV → (List HE) → R) → R) (ret0 : PV → Int → (List HE) → R) (p1 : PV) (p2 : PV) (h3 : List HE) : R :=
  f17_e c49 c50 ret0 p1 p2 h3
theorem f17_eq (k : Nat) (c49 : PV → PV → (Int → R) → R) (c50 : PV → PV → (List HE) → (PV → (List HE) → R) → R) (retF : PV × Int × (List HE) → R) (p1 : PV) (p2 : PV) (h3 : List HE) : exec (f17_E k c49 c50) f17_code (endK (f17_E k c49 c50) Try.f17 [1000000000000] f17_un retF) ⟨[.val 28 p1, .val 36 p2, .undef, .undef, .undef, .undef, .undef, .undef, .undef, .undef, .undef, .undef, .undef, .undef, .undef, .undef, .undef, .undef, .undef, .undef], [(1000000000000, .hp h3)]⟩ = f17_N k c49 c50 (fun y0 y1 y2 => retF (y0, y1, y2)) p1 p2 h3 :=
  (f17_e_mem k c49 c50 retF p1 p2 h3)

noncomputable def G17 : Nat → PV → PV → (List HE) → (PV → Int → (List HE) → R) → R
  | 0, _, _, _, _ => none
  | k + 1, p1, p2, h3, ret0 => f17_N k (G49 k) (G50 k) ret0 p1 p2 h3
theorem S17 : ∀ k, Snd Try.prog 17 f17_I f17_O (fun x ret => G17 k x.1 x.2.1 x.2.2 (fun y0 y1 y2 => ret (y0, y1, y2)))
  | 0 => snd_none
  | k + 1 => snd_step (E := f17_E k (G49 k) (G50 k)) rfl laidOut noNums (orc_ok (S49 k).o f49_D_ok (orc_ok (S50 k).o f50_D_ok orc0_ok)) (f := 17) (fn := Try.f17) (code := f17_code) Try.func17 (by kernel_rfl) (drawsOk_of laidOut (orc_ok (S49 k).o f49_D_ok (orc_ok (S50 k).o f50_D_ok orc0_ok)) mixed (by kernel_rfl)) f17_un f17_un_ok [1000000000000] (fun _ => rfl)
      (fun x ret => f17_eq k (G49 k) (G50 k) ret x.1 x.2.1 x.2.2)

/- (*catchpole/lang.Table).Part -/
noncomputable def f73_I : PV × PV × (List HE) → List SV × Obs := fun x => ([.hval 87 x.1, .val 42 x.2.1], [(1000000000000, .hp x.2.2)])
noncomputable def f73_D : List SV → Obs → Option (PV × PV × (List HE))
  | [.hval 87 p1, .val 42 p2], [(1000000000000, .hp h3)] => some (p1, p2, h3)
  | _, _ => none
theorem f73_D_ok (args : List SV) (B : Obs) (x : PV × PV × (List HE)) (h : f73_D args B = some x) : f73_I x = (args, B) := by
  unfold f73_D at h
  split at h
  · injection h with h; subst h; rfl
  · cases h
noncomputable def f73_O : Int × Bool × (List HE) → Out := (fun y => ([.int .i64 y.1, .bool y.2.1], [(1000000000000, .hp y.2.2)]))
noncomputable def f73_un : Out → Option (Int × Bool × (List HE))
  | ([.int .i64 y0, .bool y1], [(1000000000000, .hp y2)]) => some (y0, y1, y2)
  | _ => none
theorem f73_un_ok (o : Out) (y : Int × Bool × (List HE)) (h : f73_un o = some y) : o = f73_O y := by
  unfold f73_un at h
  split at h
  · injection h with h; subst h; rfl
  · cases h
noncomputable def f73_msk : Nat → Option (List Nat) := fun key => bif key == 9 then some [0, 6, 9, 10, 11] else none
noncomputable def f73_C : Oracle := orc0
noncomputable def f73_E (k : Nat) : Env := { P := Try.prog, nilOwn := fun d => false, fldOwn := fun d i => false, ownPar := ownPars, ownRet := false, hpD := fun d => false, hpF := hpFs, hpNew := false, mask := f73_msk, fuel := k, C := f73_C }
noncomputable def f73_code : Code := Try.f73.body.getD .skip
noncomputable def f73_cw1 : Code := subC f73_code [1, 1, 0, 1, 0, 0]
noncomputable def f73_hw1_0 (p1 : PV) (p2 : PV) (h3 : List HE) (n7 : Int) (n8 : Int) : St := ⟨[.hval 87 p1, .dead, .dead, .dead, .dead, .dead, .int .i64 n7, .dead, .dead, .val 42 p2, .int .i64 (List.length (PV.els p2) : Int), .int .i64 n8, .dead, .dead, .dead, .dead, .dead, .dead, .dead, .dead, .dead, .dead, .dead, .dead, .dead, .dead, .dead, .dead, .dead, .dead, .dead, .dead, .dead, .dead, .dead, .dead, .dead, .dead, .dead, .dead, .dead, .dead, .dead], [(1000000000000, .hp h3)]⟩
noncomputable def f73_w1A (k : Nat) (retF : Int × Bool × (List HE) → R) (p1 : PV) (p2 : PV) (h3 : List HE) (n7 : Int) (n8 : Int) : R := loopM (f73_E k) f73_cw1 (kont (f73_E k) f73_code [1, 1, 0, 1, 0] (endK (f73_E k) Try.f73 [1000000000000] f73_un retF)) k (f73_hw1_0 p1 p2 h3 n7 n8)
noncomputable def f73_w1b0 (ret0 : Int → Bool → (List HE) → R) (next_w1_0 : Int → Int → R) (p1 : PV) (p2 : PV) (h3 : List HE) (n7 : Int) (n8 : Int) : R :=
  bif (decide (n8 < (List.length (PV.els p2) : Int))) then
    bif (true && decide ((0 : Int) ≤ n8) && decide (n8 < (List.length (PV.els p2) : Int))) then
      bif ((decide ((PV.num (List.getD (PV.els p2) (n8).toNat PV.nil)) < (0 : Int))) == false) then
        bif (PV.isRp p1) then
          bif (true && true && (hokV h3 116 (PV.rI p1))) then
            bif (true && decide ((0 : Int) ≤ n7) && decide (n7 < ((PV.rN (PV.fld (hvarOf h3 (PV.rI p1)) 0)) : Int))) then
              bif (true && true && (hokR h3 122 (PV.rI (PV.fld (hvarOf h3 (PV.rI p1)) 0)) n7)) then
                let n9 : Int := ((PV.rN (PV.fld (List.getD (hrowOf h3 (PV.rI (PV.fld (hvarOf h3 (PV.rI p1)) 0))) (n7).toNat PV.nil) 1)) : Int)
                bif (decide (n9 ≤ (PV.num (List.getD (PV.els p2) (n8).toNat PV.nil)))) then
                  ret0 0 false h3
                else bif (PV.isRp p1) then
                  bif (true && true && (hokV h3 116 (PV.rI p1))) then
                    bif (true && decide ((0 : Int) ≤ n7) && decide (n7 < ((PV.rN (PV.fld (hvarOf h3 (PV.rI p1)) 0)) : Int))) then
                      bif (true && true && (hokR h3 122 (PV.rI (PV.fld (hvarOf h3 (PV.rI p1)) 0)) n7)) then
                        bif (true && decide ((0 : Int) ≤ (PV.num (List.getD (PV.els p2) (n8).toNat PV.nil))) && decide ((PV.num (List.getD (PV.els p2) (n8).toNat PV.nil)) < ((PV.rN (PV.fld (List.getD (hrowOf h3 (PV.rI (PV.fld (hvarOf h3 (PV.rI p1)) 0))) (n7).toNat PV.nil) 1)) : Int))) then
                          bif (true && true && (hokR h3 3 (PV.rI (PV.fld (List.getD (hrowOf h3 (PV.rI (PV.fld (hvarOf h3 (PV.rI p1)) 0))) (n7).toNat PV.nil) 1)) (PV.num (List.getD (PV.els p2) (n8).toNat PV.nil)))) then
                            let n10 : Int := (PV.num (List.getD (hrowOf h3 (PV.rI (PV.fld (List.getD (hrowOf h3 (PV.rI (PV.fld (hvarOf h3 (PV.rI p1)) 0))) (n7).toNat PV.nil) 1))) ((PV.num (List.getD (PV.els p2) (n8).toNat PV.nil))).toNat PV.nil))
                            next_w1_0 n10 (IntKind.wrap .i64 (n8 + (1 : Int)))
                          else none
                        else none
                      else none
                    else none
                  else none
                else none
              else none
            else none
          else none
        else none
      else ret0 0 false h3
    else none
  else ret0 n7 true h3

theorem f73_w1b0_mem (k : Nat) (retF : Int × Bool × (List HE) → R) (NX_w1 : St → R) (p1 : PV) (p2 : PV) (h3 : List HE) (n7 : Int) (n8 : Int) : exec (f73_E k) f73_cw1 (purgeK (f73_E k) f73_cw1 (loopK NX_w1 (kont (f73_E k) f73_code [1, 1, 0, 1, 0] (endK (f73_E k) Try.f73 [1000000000000] f73_un retF)))) (f73_hw1_0 p1 p2 h3 n7 n8) = f73_w1b0 (fun y0 y1 y2 => retF (y0, y1, y2)) (fun n7 n8 => NX_w1 (f73_hw1_0 p1 p2 h3 n7 n8)) p1 p2 h3 n7 n8 := by kernel_rfl

noncomputable def f73_w1b0N (k : Nat) (ret0 : Int → Bool → (List HE) → R) (next_w1_0 : Int → Int → R) (p1 : PV) (p2 : PV) (h3 : List HE) (n7 : Int) (n8 : Int) : R :=
  f73_w1b0 ret0 next_w1_0 p1 p2 h3 n7 n8
theorem f73_w1b0_eq (k : Nat) (retF : Int × Bool × (List HE) → R) (NX_w1 : St → R) (p1 : PV) (p2 : PV) (h3 : List HE) (n7 : Int) (n8 : Int) : exec (f73_E k) f73_cw1 (purgeK (f73_E k) f73_cw1 (loopK NX_w1 (kont (f73_E k) f73_code [1, 1, 0, 1, 0] (endK (f73_E k) Try.f73 [1000000000000] f73_un retF)))) (f73_hw1_0 p1 p2 h3 n7 n8) = f73_w1b0N k (fun y0 y1 y2 => retF (y0, y1, y2)) (fun n7 n8 => NX_w1 (f73_hw1_0 p1 p2 h3 n7 n8)) p1 p2 h3 n7 n8 :=
  (f73_w1b0_mem k retF NX_w1 p1 p2 h3 n7 n8)

noncomputable def f73_w1B (k : Nat) (ret0 : Int → Bool → (List HE) → R) (p1 : PV) (p2 : PV) (h3 : List HE) (nx : Int × Int → R) : Int × Int → R := (fun s => f73_w1b0N k ret0 (fun n7 n8 => nx (n7, n8)) p1 p2 h3 s.1 s.2)
noncomputable def f73_w1N (k : Nat) (ret0 : Int → Bool → (List HE) → R) (p1 : PV) (p2 : PV) (h3 : List HE) (n7 : Int) (n8 : Int) : R := loopR (f73_w1B k ret0 p1 p2 h3) k (n7, n8)
theorem f73_w1_eq (k : Nat) (retF : Int × Bool × (List HE) → R) (p1 : PV) (p2 : PV) (h3 : List HE) (n7 : Int) (n8 : Int) : f73_w1A k retF p1 p2 h3 n7 n8 = f73_w1N k (fun y0 y1 y2 => retF (y0, y1, y2)) p1 p2 h3 n7 n8 :=
  Eq.mp (by kernel_rfl) (loop_sim (E := (f73_E k)) (c := f73_cw1) (K := (kont (f73_E k) f73_code [1, 1, 0, 1, 0] (endK (f73_E k) Try.f73 [1000000000000] f73_un retF))) (S := Int × Int) (fun s => f73_hw1_0 p1 p2 h3 s.1 s.2) (f73_w1B k (fun y0 y1 y2 => retF (y0, y1, y2)) p1 p2 h3) (fun NX s => by
    exact Eq.mp (by kernel_rfl) (f73_w1b0_eq k retF NX p1 p2 h3 s.1 s.2)) k (n7, n8))

noncomputable def f73_e (ret0 : Int → Bool → (List HE) → R) (w1 : Int → Int → R) (p1 : PV) (p2 : PV) (h3 : List HE) : R :=
  w1 0 0

theorem f73_e_mem (k : Nat) (retF : Int × Bool × (List HE) → R) (p1 : PV) (p2 : PV) (h3 : List HE) : exec (f73_E k) f73_code (endK (f73_E k) Try.f73 [1000000000000] f73_un retF) ⟨[.hval 87 p1, .val 42 p2, .undef, .undef, .undef, .undef, .undef, .undef, .undef, .undef, .undef, .undef, .undef, .undef, .undef, .undef, .undef, .undef, .undef, .undef, .undef, .undef, .undef, .undef, .undef, .undef, .undef, .undef, .undef, .undef, .undef, .undef, .undef, .undef, .undef, .undef, .undef, .undef, .undef, .undef, .undef, .undef, .undef], [(1000000000000, .hp h3)]⟩ = f73_e (fun y0 y1 y2 => retF (y0, y1, y2)) (fun n7 n8 => f73_w1A k retF p1 p2 h3 n7 n8) p1 p2 h3 := by kernel_rfl

noncomputable def f73_N (k : Nat) (ret0 : Int → Bool → (List HE) → R) (p1 : PV) (p2 : PV) (h3 : List HE) : R :=
  f73_e ret0 (fun n7 n8 => f73_w1N k ret0 p1 p2 h3 n7 n8) p1 p2 h3
theorem f73_eq (k : Nat) (retF : Int × Bool × (List HE) → R) (p1 : PV) (p2 : PV) (h3 : List HE) : exec (f73_E k) f73_code (endK (f73_E k) Try.f73 [1000000000000] f73_un retF) ⟨[.hval 87 p1, .val 42 p2, .undef, .undef, .undef, .undef, .undef, .undef, .undef, .undef, .undef, .undef, .undef, .undef, .undef, .undef, .undef, .undef, .undef, .undef, .undef, .undef, .undef, .undef, .undef, .undef, .undef, .undef, .undef, .undef, .undef, .undef, .undef, .undef, .undef, .undef, .undef, .undef, .undef, .undef, .undef, .undef, .undef], [(1000000000000, .hp h3)]⟩ = f73_N k (fun y0 y1 y2 => retF (y0, y1, y2)) p1 p2 h3 :=
  (f73_e_mem k retF p1 p2 h3).trans (by rw [show (fun n7 n8 => f73_w1A k retF p1 p2 h3 n7 n8) = (fun n7 n8 => f73_w1N k (fun y0 y1 y2 => retF (y0, y1, y2)) p1 p2 h3 n7 n8) from funext fun n7 => funext fun n8 => f73_w1_eq k retF p1 p2 h3 n7 n8]; rfl)

noncomputable def G73 : Nat → PV → PV → (List HE) → (Int → Bool → (List HE) → R) → R
  | 0, _, _, _, _ => none
  | k + 1, p1, p2, h3, ret0 => f73_N k  ret0 p1 p2 h3
theorem S73 : ∀ k, Snd Try.prog 73 f73_I f73_O (fun x ret => G73 k x.1 x.2.1 x.2.2 (fun y0 y1 y2 => ret (y0, y1, y2)))
  | 0 => snd_none
  | k + 1 => snd_step (E := f73_E k ) rfl laidOut noNums orc0_ok (f := 73) (fn := Try.f73) (code := f73_code) Try.func73 (by kernel_rfl) (drawsOk_of laidOut orc0_ok mixed (by kernel_rfl)) f73_un f73_un_ok [1000000000000] (fun _ => rfl)
      (fun x ret => f73_eq k  ret x.1 x.2.1 x.2.2)

/- (*catchpole/span.Spans).part -/
noncomputable def f51_I : PV × PV × Int × Int × (List HE) → List SV × Obs := fun x => ([.hval 32 x.1, .val 42 x.2.1, .int .i64 x.2.2.1, .int .i64 x.2.2.2.1], [(1000000000000, .hp x.2.2.2.2)])
noncomputable def f51_D : List SV → Obs → Option (PV × PV × Int × Int × (List HE))
  | [.hval 32 p1, .val 42 p2, .int .i64 n3, .int .i64 n4], [(1000000000000, .hp h5)] => some (p1, p2, n3, n4, h5)
  | _, _ => none
theorem f51_D_ok (args : List SV) (B : Obs) (x : PV × PV × Int × Int × (List HE)) (h : f51_D args B = some x) : f51_I x = (args, B) := by
  unfold f51_D at h
  split at h
  · injection h with h; subst h; rfl
  · cases h
noncomputable def f51_O : Int × Bool × (List HE) → Out := (fun y => ([.int .i64 y.1, .bool y.2.1], [(1000000000000, .hp y.2.2)]))
noncomputable def f51_un : Out → Option (Int × Bool × (List HE))
  | ([.int .i64 y0, .bool y1], [(1000000000000, .hp y2)]) => some (y0, y1, y2)
  | _ => none
theorem f51_un_ok (o : Out) (y : Int × Bool × (List HE)) (h : f51_un o = some y) : o = f51_O y := by
  unfold f51_un at h
  split at h
  · injection h with h; subst h; rfl
  · cases h
noncomputable def f51_msk : Nat → Option (List Nat) := fun key =>  none
noncomputable def f51_C (c73 : PV → PV → (List HE) → (Int → Bool → (List HE) → R) → R) : Oracle := orc 73 f73_D f73_O (fun x ret => c73 x.1 x.2.1 x.2.2 (fun y0 y1 y2 => ret (y0, y1, y2))) <| orc0
noncomputable def f51_E (k : Nat) (c73 : PV → PV → (List HE) → (Int → Bool → (List HE) → R) → R) : Env := { P := Try.prog, nilOwn := fun d => false, fldOwn := fun d i => false, ownPar := ownPars, ownRet := false, hpD := fun d => false, hpF := hpFs, hpNew := false, mask := f51_msk, fuel := k, C := f51_C c73 }
noncomputable def f51_code : Code := Try.f51.body.getD .skip
noncomputable def f51_e (c73 : PV → PV → (List HE) → (Int → Bool → (List HE) → R) → R) (ret0 : Int → Bool → (List HE) → R) (p1 : PV) (p2 : PV) (n3 : Int) (n4 : Int) (h5 : List HE) : R :=
  bif (PV.isRp p1) then
    bif (true && true && (hokV h5 90 (PV.rI p1))) then
      c73 (PV.fld (hvarOf h5 (PV.rI p1)) 0) p2 h5 fun n6 b7 h8 =>
      bif (b7 == true) then
        bif ((decide ((0 : Int) ≤ n3)) == true) then
          bif ((decide (n3 ≤ n4)) == true) then
            bif (PV.isRp p1) then
              bif (true && true && (hokV h8 90 (PV.rI p1))) then
                ret0 n6 (decide (n4 ≤ (PV.num (PV.fld (hvarOf h8 (PV.rI p1)) 1)))) h8
              else none
            else none
          else ret0 n6 false h8
        else ret0 n6 false h8
      else ret0 n6 false h8
    else none
  else none

theorem f51_e_mem (k : Nat) (c73 : PV → PV → (List HE) → (Int → Bool → (List HE) → R) → R) (retF : Int × Bool × (List HE) → R) (p1 : PV) (p2 : PV) (n3 : Int) (n4 : Int) (h5 : List HE) : exec (f51_E k c73) f51_code (endK (f51_E k c73) Try.f51 [1000000000000] f51_un retF) ⟨[.hval 32 p1, .val 42 p2, .int .i64 n3, .int .i64 n4, .undef, .undef, .undef, .undef, .undef, .undef, .undef, .undef, .undef, .undef, .undef, .undef, .undef, .undef, .undef, .undef, .undef, .undef, .undef, .undef, .undef, .undef, .undef, .undef, .undef, .undef, .undef, .undef, .undef, .undef, .undef, .undef, .undef, .undef, .undef, .undef], [(1000000000000, .hp h5)]⟩ = f51_e c73 (fun y0 y1 y2 => retF (y0, y1, y2)) p1 p2 n3 n4 h5 := by kernel_rfl

noncomputable def f51_N (k : Nat) (c73 : PV → PV → (List HE) → (Int → Bool → (List HE) → R) → R) (ret0 : Int → Bool → (List HE) → R) (p1 : PV) (p2 : PV) (n3 : Int) (n4 : Int) (h5 : List HE) : R :=
  f51_e c73 ret0 p1 p2 n3 n4 h5
theorem f51_eq (k : Nat) (c73 : PV → PV → (List HE) → (Int → Bool → (List HE) → R) → R) (retF : Int × Bool × (List HE) → R) (p1 : PV) (p2 : PV) (n3 : Int) (n4 : Int) (h5 : List HE) : exec (f51_E k c73) f51_code (endK (f51_E k c73) Try.f51 [1000000000000] f51_un retF) ⟨[.hval 32 p1, .val 42 p2, .int .i64 n3, .int .i64 n4, .undef, .undef, .undef, .undef, .undef, .undef, .undef, .undef, .undef, .undef, .undef, .undef, .undef, .undef, .undef, .undef, .undef, .undef, .undef, .undef, .undef, .undef, .undef, .undef, .undef, .undef, .undef, .undef, .undef, .undef, .undef, .undef, .undef, .undef, .undef, .undef], [(1000000000000, .hp h5)]⟩ = f51_N k c73 (fun y0 y1 y2 => retF (y0, y1, y2)) p1 p2 n3 n4 h5 :=
  (f51_e_mem k c73 retF p1 p2 n3 n4 h5)

noncomputable def G51 : Nat → PV → PV → Int → Int → (List HE) → (Int → Bool → (List HE) → R) → R
  | 0, _, _, _, _, _, _ => none
  | k + 1, p1, p2, n3, n4, h5, ret0 => f51_N k (G73 k) ret0 p1 p2 n3 n4 h5
theorem S51 : ∀ k, Snd Try.prog 51 f51_I f51_O (fun x ret => G51 k x.1 x.2.1 x.2.2.1 x.2.2.2.1 x.2.2.2.2 (fun y0 y1 y2 => ret (y0, y1, y2)))
  | 0 => snd_none
  | k + 1 => snd_step (E := f51_E k (G73 k)) rfl laidOut noNums (orc_ok (S73 k).o f73_D_ok orc0_ok) (f := 51) (fn := Try.f51) (code := f51_code) Try.func51 (by kernel_rfl) (drawsOk_of laidOut (orc_ok (S73 k).o f73_D_ok orc0_ok) mixed (by kernel_rfl)) f51_un f51_un_ok [1000000000000] (fun _ => rfl)
      (fun x ret => f51_eq k (G73 k) ret x.1 x.2.1 x.2.2.1 x.2.2.2.1 x.2.2.2.2)

/- (*catchpole/lang.places).put -/
noncomputable def f96_I : PV × Int × (List HE) → List SV × Obs := fun x => ([.hval 118 x.1, .int .i64 x.2.1], [(1000000000000, .hp x.2.2)])
noncomputable def f96_D : List SV → Obs → Option (PV × Int × (List HE))
  | [.hval 118 p1, .int .i64 n2], [(1000000000000, .hp h3)] => some (p1, n2, h3)
  | _, _ => none
theorem f96_D_ok (args : List SV) (B : Obs) (x : PV × Int × (List HE)) (h : f96_D args B = some x) : f96_I x = (args, B) := by
  unfold f96_D at h
  split at h
  · injection h with h; subst h; rfl
  · cases h
noncomputable def f96_O : (List HE) → Out := (fun y => ([], [(1000000000000, .hp y)]))
noncomputable def f96_un : Out → Option ((List HE))
  | ([], [(1000000000000, .hp y0)]) => some y0
  | _ => none
theorem f96_un_ok (o : Out) (y : (List HE)) (h : f96_un o = some y) : o = f96_O y := by
  unfold f96_un at h
  split at h
  · injection h with h; subst h; rfl
  · cases h
noncomputable def f96_msk : Nat → Option (List Nat) := fun key =>  none
noncomputable def f96_C : Oracle := orc0
noncomputable def f96_E (k : Nat) : Env := { P := Try.prog, nilOwn := fun d => false, fldOwn := fun d i => false, ownPar := ownPars, ownRet := false, hpD := fun d => false, hpF := hpFs, hpNew := false, mask := f96_msk, fuel := k, C := f96_C }
noncomputable def f96_code : Code := Try.f96.body.getD .skip
noncomputable def f96_e (ret0 : (List HE) → R) (p1 : PV) (n2 : Int) (h3 : List HE) : R :=
  bif (PV.isRp p1) then
    bif (true && decide ((0 : Int) ≤ (IntKind.wrap .i64 (Int.tdiv n2 64))) && decide ((IntKind.wrap .i64 (Int.tdiv n2 64)) < 5)) then
      bif (true && true && (hokV h3 151 (PV.rI p1))) then
        bif (decide ((0 : Int) ≤ (Int.tmod n2 64))) then
          let n4 : Int := (intBit .or .u64 (PV.num (PV.fld (hvarOf h3 (PV.rI p1)) ((IntKind.wrap .i64 (Int.tdiv n2 64))).toNat)) (IntKind.wrap .u64 ((1 : Int) * 2 ^ (min ((Int.tmod n2 64)).toNat 64))))
          bif (PV.isRp p1) then
            bif (true && decide ((0 : Int) ≤ (IntKind.wrap .i64 (Int.tdiv n2 64))) && decide ((IntKind.wrap .i64 (Int.tdiv n2 64)) < 5)) then
              bif (true && (hokV h3 151 (PV.rI p1))) then
                let h5 : List HE := (List.set h3 (PV.rI p1) (HE.var 151 (PV.agg (List.set (PV.flds (hvarOf h3 (PV.rI p1))) ((IntKind.wrap .i64 (Int.tdiv n2 64))).toNat (PV.int n4)))))
                ret0 h5
              else none
            else none
          else none
        else none
      else none
    else none
  else none

theorem f96_e_mem (k : Nat) (retF : (List HE) → R) (p1 : PV) (n2 : Int) (h3 : List HE) : exec (f96_E k) f96_code (endK (f96_E k) Try.f96 [1000000000000] f96_un retF) ⟨[.hval 118 p1, .int .i64 n2, .undef, .undef, .undef, .undef, .undef, .undef, .undef, .undef, .undef, .undef, .undef, .undef, .undef, .undef], [(1000000000000, .hp h3)]⟩ = f96_e (fun y0 => retF y0) p1 n2 h3 := by kernel_rfl

noncomputable def f96_N (k : Nat) (ret0 : (List HE) → R) (p1 : PV) (n2 : Int) (h3 : List HE) : R :=
  f96_e ret0 p1 n2 h3
theorem f96_eq (k : Nat) (retF : (List HE) → R) (p1 : PV) (n2 : Int) (h3 : List HE) : exec (f96_E k) f96_code (endK (f96_E k) Try.f96 [1000000000000] f96_un retF) ⟨[.hval 118 p1, .int .i64 n2, .undef, .undef, .undef, .undef, .undef, .undef, .undef, .undef, .undef, .undef, .undef, .undef, .undef, .undef], [(1000000000000, .hp h3)]⟩ = f96_N k (fun y0 => retF y0) p1 n2 h3 :=
  (f96_e_mem k retF p1 n2 h3)

noncomputable def G96 : Nat → PV → Int → (List HE) → ((List HE) → R) → R
  | 0, _, _, _, _ => none
  | k + 1, p1, n2, h3, ret0 => f96_N k  ret0 p1 n2 h3
theorem S96 : ∀ k, Snd Try.prog 96 f96_I f96_O (fun x ret => G96 k x.1 x.2.1 x.2.2 (fun y0 => ret y0))
  | 0 => snd_none
  | k + 1 => snd_step (E := f96_E k ) rfl laidOut noNums orc0_ok (f := 96) (fn := Try.f96) (code := f96_code) Try.func96 (by kernel_rfl) (drawsOk_of laidOut orc0_ok mixed (by kernel_rfl)) f96_un f96_un_ok [1000000000000] (fun _ => rfl)
      (fun x ret => f96_eq k  ret x.1 x.2.1 x.2.2)

/- (catchpole/byteset.Set).Has -/
noncomputable def f97_I : PV × Int → List SV × Obs := fun x => ([.val 25 x.1, .int .u8 x.2], [])
noncomputable def f97_D : List SV → Obs → Option (PV × Int)
  | [.val 25 p1, .int .u8 n2], [] => some (p1, n2)
  | _, _ => none
theorem f97_D_ok (args : List SV) (B : Obs) (x : PV × Int) (h : f97_D args B = some x) : f97_I x = (args, B) := by
  unfold f97_D at h
  split at h
  · injection h with h; subst h; rfl
  · cases h
noncomputable def f97_O : Bool → Out := (fun y => ([.bool y], []))
noncomputable def f97_un : Out → Option (Bool)
  | ([.bool y0], []) => some y0
  | _ => none
theorem f97_un_ok (o : Out) (y : Bool) (h : f97_un o = some y) : o = f97_O y := by
  unfold f97_un at h
  split at h
  · injection h with h; subst h; rfl
  · cases h
noncomputable def f97_msk : Nat → Option (List Nat) := fun key =>  none
noncomputable def f97_C : Oracle := orc0
noncomputable def f97_E (k : Nat) : Env := { P := Try.prog, nilOwn := fun d => false, fldOwn := fun d i => false, ownPar := ownPars, ownRet := false, hpD := fun d => false, hpF := hpFs, hpNew := false, mask := f97_msk, fuel := k, C := f97_C }
noncomputable def f97_code : Code := Try.f97.body.getD .skip
noncomputable def f97_e (ret0 : Bool → R) (p1 : PV) (n2 : Int) : R :=
  bif (true && decide ((0 : Int) ≤ (IntKind.wrap .u8 (Int.tdiv n2 64))) && decide ((IntKind.wrap .u8 (Int.tdiv n2 64)) < 4)) then
    bif (decide ((0 : Int) ≤ (Int.tmod n2 64))) then
      let n3 : Int := (Int.fdiv (PV.num (PV.fld p1 ((IntKind.wrap .u8 (Int.tdiv n2 64))).toNat)) (2 ^ (min ((Int.tmod n2 64)).toNat 64)))
      ret0 (decide ((intBit .and .u64 n3 1) = (1 : Int)))
    else none
  else none

theorem f97_e_mem (k : Nat) (retF : Bool → R) (p1 : PV) (n2 : Int) : exec (f97_E k) f97_code (endK (f97_E k) Try.f97 [] f97_un retF) ⟨[.val 25 p1, .int .u8 n2, .undef, .undef, .undef, .undef, .undef, .undef, .undef, .undef, .undef, .undef, .undef, .undef], []⟩ = f97_e (fun y0 => retF y0) p1 n2 := by kernel_rfl

noncomputable def f97_N (k : Nat) (ret0 : Bool → R) (p1 : PV) (n2 : Int) : R :=
  f97_e ret0 p1 n2
theorem f97_eq (k : Nat) (retF : Bool → R) (p1 : PV) (n2 : Int) : exec (f97_E k) f97_code (endK (f97_E k) Try.f97 [] f97_un retF) ⟨[.val 25 p1, .int .u8 n2, .undef, .undef, .undef, .undef, .undef, .undef, .undef, .undef, .undef, .undef, .undef, .undef], []⟩ = f97_N k (fun y0 => retF y0) p1 n2 :=
  (f97_e_mem k retF p1 n2)

noncomputable def G97 : Nat → PV → Int → (Bool → R) → R
  | 0, _, _, _ => none
  | k + 1, p1, n2, ret0 => f97_N k  ret0 p1 n2
theorem S97 : ∀ k, Snd Try.prog 97 f97_I f97_O (fun x ret => G97 k x.1 x.2 (fun y0 => ret y0))
  | 0 => snd_none
  | k + 1 => snd_step (E := f97_E k ) rfl laidOut noNums orc0_ok (f := 97) (fn := Try.f97) (code := f97_code) Try.func97 (by kernel_rfl) (drawsOk_of laidOut orc0_ok mixed (by kernel_rfl)) f97_un f97_un_ok [] (fun _ => rfl)
      (fun x ret => f97_eq k  ret x.1 x.2)

/- (*catchpole/lang.places).has -/
noncomputable def f75_I : PV × Int × (List HE) → List SV × Obs := fun x => ([.hval 118 x.1, .int .i64 x.2.1], [(1000000000000, .hp x.2.2)])
noncomputable def f75_D : List SV → Obs → Option (PV × Int × (List HE))
  | [.hval 118 p1, .int .i64 n2], [(1000000000000, .hp h3)] => some (p1, n2, h3)
  | _, _ => none
theorem f75_D_ok (args : List SV) (B : Obs) (x : PV × Int × (List HE)) (h : f75_D args B = some x) : f75_I x = (args, B) := by
  unfold f75_D at h
  split at h
  · injection h with h; subst h; rfl
  · cases h
noncomputable def f75_O : Bool × (List HE) → Out := (fun y => ([.bool y.1], [(1000000000000, .hp y.2)]))
noncomputable def f75_un : Out → Option (Bool × (List HE))
  | ([.bool y0], [(1000000000000, .hp y1)]) => some (y0, y1)
  | _ => none
theorem f75_un_ok (o : Out) (y : Bool × (List HE)) (h : f75_un o = some y) : o = f75_O y := by
  unfold f75_un at h
  split at h
  · injection h with h; subst h; rfl
  · cases h
noncomputable def f75_msk : Nat → Option (List Nat) := fun key =>  none
noncomputable def f75_C : Oracle := orc0
noncomputable def f75_E (k : Nat) : Env := { P := Try.prog, nilOwn := fun d => false, fldOwn := fun d i => false, ownPar := ownPars, ownRet := false, hpD := fun d => false, hpF := hpFs, hpNew := false, mask := f75_msk, fuel := k, C := f75_C }
noncomputable def f75_code : Code := Try.f75.body.getD .skip
noncomputable def f75_e (ret0 : Bool → (List HE) → R) (p1 : PV) (n2 : Int) (h3 : List HE) : R :=
  bif (PV.isRp p1) then
    bif (true && decide ((0 : Int) ≤ (IntKind.wrap .i64 (Int.tdiv n2 64))) && decide ((IntKind.wrap .i64 (Int.tdiv n2 64)) < 5)) then
      bif (true && true && (hokV h3 151 (PV.rI p1))) then
        bif (decide ((0 : Int) ≤ (Int.tmod n2 64))) then
          let n4 : Int := (Int.fdiv (PV.num (PV.fld (hvarOf h3 (PV.rI p1)) ((IntKind.wrap .i64 (Int.tdiv n2 64))).toNat)) (2 ^ (min ((Int.tmod n2 64)).toNat 64)))
          ret0 (decide ((intBit .and .u64 n4 1) = (1 : Int))) h3
        else none
      else none
    else none
  else none

theorem f75_e_mem (k : Nat) (retF : Bool × (List HE) → R) (p1 : PV) (n2 : Int) (h3 : List HE) : exec (f75_E k) f75_code (endK (f75_E k) Try.f75 [1000000000000] f75_un retF) ⟨[.hval 118 p1, .int .i64 n2, .undef, .undef, .undef, .undef, .undef, .undef, .undef, .undef, .undef, .undef, .undef, .undef, .undef, .undef], [(1000000000000, .hp h3)]⟩ = f75_e (fun y0 y1 => retF (y0, y1)) p1 n2 h3 := by kernel_rfl

noncomputable def f75_N (k : Nat) (ret0 : Bool → (List HE) → R) (p1 : PV) (n2 : Int) (h3 : List HE) : R :=
  f75_e ret0 p1 n2 h3
theorem f75_eq (k : Nat) (retF : Bool × (List HE) → R) (p1 : PV) (n2 : Int) (h3 : List HE) : exec (f75_E k) f75_code (endK (f75_E k) Try.f75 [1000000000000] f75_un retF) ⟨[.hval 118 p1, .int .i64 n2, .undef, .undef, .undef, .undef, .undef, .undef, .undef, .undef, .undef, .undef, .undef, .undef, .undef, .undef], [(1000000000000, .hp h3)]⟩ = f75_N k (fun y0 y1 => retF (y0, y1)) p1 n2 h3 :=
  (f75_e_mem k retF p1 n2 h3)

noncomputable def G75 : Nat → PV → Int → (List HE) → (Bool → (List HE) → R) → R
  | 0, _, _, _, _ => none
  | k + 1, p1, n2, h3, ret0 => f75_N k  ret0 p1 n2 h3
theorem S75 : ∀ k, Snd Try.prog 75 f75_I f75_O (fun x ret => G75 k x.1 x.2.1 x.2.2 (fun y0 y1 => ret (y0, y1)))
  | 0 => snd_none
  | k + 1 => snd_step (E := f75_E k ) rfl laidOut noNums orc0_ok (f := 75) (fn := Try.f75) (code := f75_code) Try.func75 (by kernel_rfl) (drawsOk_of laidOut orc0_ok mixed (by kernel_rfl)) f75_un f75_un_ok [1000000000000] (fun _ => rfl)
      (fun x ret => f75_eq k  ret x.1 x.2.1 x.2.2)

/- (*catchpole/lang.places).or -/
noncomputable def f98_I : PV × PV × (List HE) → List SV × Obs := fun x => ([.hval 118 x.1, .hval 118 x.2.1], [(1000000000000, .hp x.2.2)])
noncomputable def f98_D : List SV → Obs → Option (PV × PV × (List HE))
  | [.hval 118 p1, .hval 118 p2], [(1000000000000, .hp h3)] => some (p1, p2, h3)
  | _, _ => none
theorem f98_D_ok (args : List SV) (B : Obs) (x : PV × PV × (List HE)) (h : f98_D args B = some x) : f98_I x = (args, B) := by
  unfold f98_D at h
  split at h
  · injection h with h; subst h; rfl
  · cases h
noncomputable def f98_O : (List HE) → Out := (fun y => ([], [(1000000000000, .hp y)]))
noncomputable def f98_un : Out → Option ((List HE))
  | ([], [(1000000000000, .hp y0)]) => some y0
  | _ => none
theorem f98_un_ok (o : Out) (y : (List HE)) (h : f98_un o = some y) : o = f98_O y := by
  unfold f98_un at h
  split at h
  · injection h with h; subst h; rfl
  · cases h
noncomputable def f98_msk : Nat → Option (List Nat) := fun key => bif key == 3 then some [0, 1, 5] else none
noncomputable def f98_C : Oracle := orc0
noncomputable def f98_E (k : Nat) : Env := { P := Try.prog, nilOwn := fun d => false, fldOwn := fun d i => false, ownPar := ownPars, ownRet := false, hpD := fun d => false, hpF := hpFs, hpNew := false, mask := f98_msk, fuel := k, C := f98_C }
noncomputable def f98_code : Code := Try.f98.body.getD .skip
noncomputable def f98_cw1 : Code := subC f98_code [1, 0, 0]
noncomputable def f98_hw1_0 (p1 : PV) (p2 : PV) (n6 : Int) (h7 : List HE) : St := ⟨[.hval 118 p1, .hval 118 p2, .dead, .dead, .dead, .int .i64 n6, .dead, .dead, .dead, .dead, .dead, .dead, .dead, .dead, .dead, .dead, .dead, .dead, .dead, .dead, .dead, .dead], [(1000000000000, .hp h7)]⟩
noncomputable def f98_w1A (k : Nat) (retF : (List HE) → R) (p1 : PV) (p2 : PV) (n6 : Int) (h7 : List HE) : R := loopM (f98_E k) f98_cw1 (kont (f98_E k) f98_code [1, 0] (endK (f98_E k) Try.f98 [1000000000000] f98_un retF)) k (f98_hw1_0 p1 p2 n6 h7)
noncomputable def f98_w1b0 (ret0 : (List HE) → R) (next_w1_0 : Int → (List HE) → R) (p1 : PV) (p2 : PV) (n6 : Int) (h7 : List HE) : R :=
  bif (decide (n6 < (5 : Int))) then
    bif (PV.isRp p1) then
      bif (true && decide ((0 : Int) ≤ n6) && decide (n6 < 5)) then
        bif (true && true && (hokV h7 151 (PV.rI p1))) then
          bif (PV.isRp p2) then
            bif (true && decide ((0 : Int) ≤ n6) && decide (n6 < 5)) then
              bif (true && true && (hokV h7 151 (PV.rI p2))) then
                let n8 : Int := (intBit .or .u64 (PV.num (PV.fld (hvarOf h7 (PV.rI p1)) (n6).toNat)) (PV.num (PV.fld (hvarOf h7 (PV.rI p2)) (n6).toNat)))
                bif (PV.isRp p1) then
                  bif (true && decide ((0 : Int) ≤ n6) && decide (n6 < 5)) then
                    bif (true && (hokV h7 151 (PV.rI p1))) then
                      let h9 : List HE := (List.set h7 (PV.rI p1) (HE.var 151 (PV.agg (List.set (PV.flds (hvarOf h7 (PV.rI p1))) (n6).toNat (PV.int n8)))))
                      next_w1_0 (IntKind.wrap .i64 (n6 + (1 : Int))) h9
                    else none
                  else none
                else none
              else none
            else none
          else none
        else none
      else none
    else none
  else ret0 h7

theorem f98_w1b0_mem (k : Nat) (retF : (List HE) → R) (NX_w1 : St → R) (p1 : PV) (p2 : PV) (n6 : Int) (h7 : List HE) : exec (f98_E k) f98_cw1 (purgeK (f98_E k) f98_cw1 (loopK NX_w1 (kont (f98_E k) f98_code [1, 0] (endK (f98_E k) Try.f98 [1000000000000] f98_un retF)))) (f98_hw1_0 p1 p2 n6 h7) = f98_w1b0 (fun y0 => retF y0) (fun n6 h7 => NX_w1 (f98_hw1_0 p1 p2 n6 h7)) p1 p2 n6 h7 := by kernel_rfl

noncomputable def f98_w1b0N (k : Nat) (ret0 : (List HE) → R) (next_w1_0 : Int → (List HE) → R) (p1 : PV) (p2 : PV) (n6 : Int) (h7 : List HE) : R :=
  f98_w1b0 ret0 next_w1_0 p1 p2 n6 h7
theorem f98_w1b0_eq (k : Nat) (retF : (List HE) → R) (NX_w1 : St → R) (p1 : PV) (p2 : PV) (n6 : Int) (h7 : List HE) : exec (f98_E k) f98_cw1 (purgeK (f98_E k) f98_cw1 (loopK NX_w1 (kont (f98_E k) f98_code [1, 0] (endK (f98_E k) Try.f98 [1000000000000] f98_un retF)))) (f98_hw1_0 p1 p2 n6 h7) = f98_w1b0N k (fun y0 => retF y0) (fun n6 h7 => NX_w1 (f98_hw1_0 p1 p2 n6 h7)) p1 p2 n6 h7 :=
  (f98_w1b0_mem k retF NX_w1 p1 p2 n6 h7)

noncomputable def f98_w1B (k : Nat) (ret0 : (List HE) → R) (p1 : PV) (p2 : PV) (nx : Int × (List HE) → R) : Int × (List HE) → R := (fun s => f98_w1b0N k ret0 (fun n6 h7 => nx (n6, h7)) p1 p2 s.1 s.2)
noncomputable def f98_w1N (k : Nat) (ret0 : (List HE) → R) (p1 : PV) (p2 : PV) (n6 : Int) (h7 : List HE) : R := loopR (f98_w1B k ret0 p1 p2) k (n6, h7)
theorem f98_w1_eq (k : Nat) (retF : (List HE) → R) (p1 : PV) (p2 : PV) (n6 : Int) (h7 : List HE) : f98_w1A k retF p1 p2 n6 h7 = f98_w1N k (fun y0 => retF y0) p1 p2 n6 h7 :=
  Eq.mp (by kernel_rfl) (loop_sim (E := (f98_E k)) (c := f98_cw1) (K := (kont (f98_E k) f98_code [1, 0] (endK (f98_E k) Try.f98 [1000000000000] f98_un retF))) (S := Int × (List HE)) (fun s => f98_hw1_0 p1 p2 s.1 s.2) (f98_w1B k (fun y0 => retF y0) p1 p2) (fun NX s => by
    exact Eq.mp (by kernel_rfl) (f98_w1b0_eq k retF NX p1 p2 s.1 s.2)) k (n6, h7))

noncomputable def f98_e (ret0 : (List HE) → R) (w1 : Int → (List HE) → R) (p1 : PV) (p2 : PV) (h3 : List HE) : R :=
  w1 0 h3

theorem f98_e_mem (k : Nat) (retF : (List HE) → R) (p1 : PV) (p2 : PV) (h3 : List HE) : exec (f98_E k) f98_code (endK (f98_E k) Try.f98 [1000000000000] f98_un retF) ⟨[.hval 118 p1, .hval 118 p2, .undef, .undef, .undef, .undef, .undef, .undef, .undef, .undef, .undef, .undef, .undef, .undef, .undef, .undef, .undef, .undef, .undef, .undef, .undef, .undef], [(1000000000000, .hp h3)]⟩ = f98_e (fun y0 => retF y0) (fun n6 h7 => f98_w1A k retF p1 p2 n6 h7) p1 p2 h3 := by kernel_rfl

noncomputable def f98_N (k : Nat) (ret0 : (List HE) → R) (p1 : PV) (p2 : PV) (h3 : List HE) : R :=
  f98_e ret0 (fun n6 h7 => f98_w1N k ret0 p1 p2 n6 h7) p1 p2 h3
theorem f98_eq (k : Nat) (retF : (List HE) → R) (p1 : PV) (p2 : PV) (h3 : List HE) : exec (f98_E k) f98_code (endK (f98_E k) Try.f98 [1000000000000] f98_un retF) ⟨[.hval 118 p1, .hval 118 p2, .undef, .undef, .undef, .undef, .undef, .undef, .undef, .undef, .undef, .undef, .undef, .undef, .undef, .undef, .undef, .undef, .undef, .undef, .undef, .undef], [(1000000000000, .hp h3)]⟩ = f98_N k (fun y0 => retF y0) p1 p2 h3 :=
  (f98_e_mem k retF p1 p2 h3).trans (by rw [show (fun n6 h7 => f98_w1A k retF p1 p2 n6 h7) = (fun n6 h7 => f98_w1N k (fun y0 => retF y0) p1 p2 n6 h7) from funext fun n6 => funext fun h7 => f98_w1_eq k retF p1 p2 n6 h7]; rfl)

noncomputable def G98 : Nat → PV → PV → (List HE) → ((List HE) → R) → R
  | 0, _, _, _, _ => none
  | k + 1, p1, p2, h3, ret0 => f98_N k  ret0 p1 p2 h3
theorem S98 : ∀ k, Snd Try.prog 98 f98_I f98_O (fun x ret => G98 k x.1 x.2.1 x.2.2 (fun y0 => ret y0))
  | 0 => snd_none
  | k + 1 => snd_step (E := f98_E k ) rfl laidOut noNums orc0_ok (f := 98) (fn := Try.f98) (code := f98_code) Try.func98 (by kernel_rfl) (drawsOk_of laidOut orc0_ok mixed (by kernel_rfl)) f98_un f98_un_ok [1000000000000] (fun _ => rfl)
      (fun x ret => f98_eq k  ret x.1 x.2.1 x.2.2)

/- (*catchpole/lang.Table).row -/
noncomputable def f74_I : PV × Int × Int × (List HE) → List SV × Obs := fun x => ([.hval 87 x.1, .int .i64 x.2.1, .int .i64 x.2.2.1], [(1000000000000, .hp x.2.2.2)])
noncomputable def f74_D : List SV → Obs → Option (PV × Int × Int × (List HE))
  | [.hval 87 p1, .int .i64 n2, .int .i64 n3], [(1000000000000, .hp h4)] => some (p1, n2, n3, h4)
  | _, _ => none
theorem f74_D_ok (args : List SV) (B : Obs) (x : PV × Int × Int × (List HE)) (h : f74_D args B = some x) : f74_I x = (args, B) := by
  unfold f74_D at h
  split at h
  · injection h with h; subst h; rfl
  · cases h
noncomputable def f74_O : PV × (List HE) → Out := (fun y => ([.hval 118 y.1], [(1000000000000, .hp y.2)]))
noncomputable def f74_un : Out → Option (PV × (List HE))
  | ([.hval 118 y0], [(1000000000000, .hp y1)]) => some (y0, y1)
  | _ => none
theorem f74_un_ok (o : Out) (y : PV × (List HE)) (h : f74_un o = some y) : o = f74_O y := by
  unfold f74_un at h
  split at h
  · injection h with h; subst h; rfl
  · cases h
noncomputable def f74_msk : Nat → Option (List Nat) := fun key => bif key == 51 then some [0, 1, 2, 8, 9, 10, 11] else bif key == 81 then some [0, 1, 2, 8, 9, 12] else none
noncomputable def f74_C (c74 : PV → Int → Int → (List HE) → (PV → (List HE) → R) → R) (c75 : PV → Int → (List HE) → (Bool → (List HE) → R) → R) (c96 : PV → Int → (List HE) → ((List HE) → R) → R) (c97 : PV → Int → (Bool → R) → R) (c98 : PV → PV → (List HE) → ((List HE) → R) → R) : Oracle := orc 74 f74_D f74_O (fun x ret => c74 x.1 x.2.1 x.2.2.1 x.2.2.2 (fun y0 y1 => ret (y0, y1))) <| orc 75 f75_D f75_O (fun x ret => c75 x.1 x.2.1 x.2.2 (fun y0 y1 => ret (y0, y1))) <| orc 96 f96_D f96_O (fun x ret => c96 x.1 x.2.1 x.2.2 (fun y0 => ret y0)) <| orc 97 f97_D f97_O (fun x ret => c97 x.1 x.2 (fun y0 => ret y0)) <| orc 98 f98_D f98_O (fun x ret => c98 x.1 x.2.1 x.2.2 (fun y0 => ret y0)) <| orc0
noncomputable def f74_E (k : Nat) (c74 : PV → Int → Int → (List HE) → (PV → (List HE) → R) → R) (c75 : PV → Int → (List HE) → (Bool → (List HE) → R) → R) (c96 : PV → Int → (List HE) → ((List HE) → R) → R) (c97 : PV → Int → (Bool → R) → R) (c98 : PV → PV → (List HE) → ((List HE) → R) → R) : Env := { P := Try.prog, nilOwn := fun d => false, fldOwn := fun d i => false, ownPar := ownPars, ownRet := false, hpD := fun d => d == 32 || d == 48, hpF := hpFs, hpNew := false, mask := f74_msk, fuel := k, C := f74_C c74 c75 c96 c97 c98 }
noncomputable def f74_code : Code := Try.f74.body.getD .skip
noncomputable def f74_cw1 : Code := subC f74_code [1, 1, 1, 1, 1, 0, 1, 0, 1, 1, 1, 1, 1, 0, 1, 1, 0, 0]
noncomputable def f74_hw1_0 (p1 : PV) (n2 : Int) (n3 : Int) (h6 : List HE) (h8 : List HE) (p19 : PV) (n28 : Int) (h29 : List HE) : St := ⟨[.hval 87 p1, .int .i64 n2, .int .i64 n3, .dead, .dead, .dead, .dead, .dead, .hptr 151 (List.length h6) [], .hptr 122 (PV.rI (PV.fld (hvarOf h8 (PV.rI p1)) 0)) [.el n2], .hval 118 p19, .int .i64 n28, .dead, .dead, .dead, .dead, .dead, .dead, .dead, .dead, .dead, .dead, .dead, .dead, .dead, .dead, .dead, .dead, .dead, .dead, .dead, .dead, .dead, .dead, .dead, .dead, .dead, .dead, .dead, .dead, .dead, .dead, .dead, .dead, .dead, .dead, .dead, .dead, .dead, .dead, .dead, .dead, .dead, .dead, .dead, .dead, .dead, .dead, .dead, .dead, .dead, .dead, .dead, .dead, .dead, .dead, .dead, .dead, .dead, .dead, .dead, .dead, .dead, .dead, .dead, .dead, .dead, .dead, .dead, .dead, .dead, .dead, .dead, .dead, .dead, .dead, .dead, .dead, .dead, .dead, .dead, .dead, .dead, .dead, .dead, .dead, .dead, .dead, .dead, .dead, .dead, .dead, .dead, .dead, .dead, .dead, .dead, .dead, .dead, .dead, .dead, .dead, .dead, .dead, .dead, .dead, .dead, .dead, .dead, .dead, .dead, .dead, .dead, .dead, .dead, .dead, .dead, .dead, .dead, .dead, .dead, .dead, .dead, .dead, .dead, .dead, .dead, .dead, .dead, .dead, .dead, .dead, .dead, .dead, .dead, .dead, .dead, .dead, .dead, .dead, .dead, .dead, .dead, .dead, .dead, .dead, .dead, .dead, .dead, .dead, .dead, .dead, .dead, .dead, .dead, .dead, .dead, .dead, .dead, .dead, .dead, .dead, .dead, .dead, .dead, .dead, .dead, .dead, .dead, .dead, .dead, .dead, .dead, .dead, .dead, .dead, .dead, .dead, .dead, .dead, .dead, .dead, .dead, .dead, .dead, .dead, .dead, .dead, .dead, .dead, .dead, .dead, .dead, .dead, .dead, .dead], [(1000000000000, .hp h29)]⟩
noncomputable def f74_w1A (k : Nat) (c74 : PV → Int → Int → (List HE) → (PV → (List HE) → R) → R) (c75 : PV → Int → (List HE) → (Bool → (List HE) → R) → R) (c96 : PV → Int → (List HE) → ((List HE) → R) → R) (c97 : PV → Int → (Bool → R) → R) (c98 : PV → PV → (List HE) → ((List HE) → R) → R) (retF : PV × (List HE) → R) (p1 : PV) (n2 : Int) (n3 : Int) (h6 : List HE) (h8 : List HE) (p19 : PV) (n28 : Int) (h29 : List HE) : R := loopM (f74_E k c74 c75 c96 c97 c98) f74_cw1 (kont (f74_E k c74 c75 c96 c97 c98) f74_code [1, 1, 1, 1, 1, 0, 1, 0, 1, 1, 1, 1, 1, 0, 1, 1, 0] (endK (f74_E k c74 c75 c96 c97 c98) Try.f74 [1000000000000] f74_un retF)) k (f74_hw1_0 p1 n2 n3 h6 h8 p19 n28 h29)
noncomputable def f74_w1b0 (c74 : PV → Int → Int → (List HE) → (PV → (List HE) → R) → R) (c75 : PV → Int → (List HE) → (Bool → (List HE) → R) → R) (c96 : PV → Int → (List HE) → ((List HE) → R) → R) (c97 : PV → Int → (Bool → R) → R) (c98 : PV → PV → (List HE) → ((List HE) → R) → R) (ret0 : PV → (List HE) → R) (next_w1_0 : Int → (List HE) → R) (p1 : PV) (n2 : Int) (n3 : Int) (h6 : List HE) (h8 : List HE) (p19 : PV) (n28 : Int) (h29 : List HE) : R :=
  bif (PV.isRp p1) then
    bif (true && true && (hokV h29 116 (PV.rI p1))) then
      bif (decide (n28 ≤ (List.length (PV.els (PV.fld (hvarOf h29 (PV.rI p1)) 1)) : Int))) then
        c75 p19 n28 h29 fun b30 h31 =>
        bif b30 then
          bif (true && true && (hokR h31 122 (PV.rI (PV.fld (hvarOf h8 (PV.rI p1)) 0)) n2)) then
            bif (true && decide ((0 : Int) ≤ (1 : Int)) && decide ((1 : Int) < ((PV.rN (PV.fld (List.getD (hrowOf h31 (PV.rI (PV.fld (hvarOf h8 (PV.rI p1)) 0))) (n2).toNat PV.nil) 1)) : Int))) then
              bif (true && true && (hokR h31 3 (PV.rI (PV.fld (List.getD (hrowOf h31 (PV.rI (PV.fld (hvarOf h8 (PV.rI p1)) 0))) (n2).toNat PV.nil) 1)) (1 : Int))) then
                let n32 : Int := (PV.num (List.getD (hrowOf h31 (PV.rI (PV.fld (List.getD (hrowOf h31 (PV.rI (PV.fld (hvarOf h8 (PV.rI p1)) 0))) (n2).toNat PV.nil) 1))) ((1 : Int)).toNat PV.nil))
                c74 p1 n32 n28 h31 fun p33 h34 =>
                c98 (PV.rp (List.length h6)) p33 h34 fun h35 =>
                next_w1_0 (IntKind.wrap .i64 (n28 + (1 : Int))) h35
              else none
            else none
          else none
        else next_w1_0 (IntKind.wrap .i64 (n28 + (1 : Int))) h31
      else bif (PV.isRp p1) then
        bif (true && true && (hokV h29 116 (PV.rI p1))) then
          bif (true && decide ((0 : Int) ≤ n2) && decide (n2 < ((PV.rN (PV.fld (hvarOf h29 (PV.rI p1)) 2)) : Int))) then
            bif (true && true && (hokR h29 149 (PV.rI (PV.fld (hvarOf h29 (PV.rI p1)) 2)) n2)) then
              bif (true && decide ((0 : Int) ≤ n3) && decide (n3 < ((PV.rN (List.getD (hrowOf h29 (PV.rI (PV.fld (hvarOf h29 (PV.rI p1)) 2))) (n2).toNat PV.nil)) : Int))) then
                bif (true && (hokR h29 118 (PV.rI (List.getD (hrowOf h29 (PV.rI (PV.fld (hvarOf h29 (PV.rI p1)) 2))) (n2).toNat PV.nil)) n3)) then
                  let h36 : List HE := (List.set h29 (PV.rI (List.getD (hrowOf h29 (PV.rI (PV.fld (hvarOf h29 (PV.rI p1)) 2))) (n2).toNat PV.nil)) (HE.row 118 (List.set (hrowOf h29 (PV.rI (List.getD (hrowOf h29 (PV.rI (PV.fld (hvarOf h29 (PV.rI p1)) 2))) (n2).toNat PV.nil))) (n3).toNat (PV.rp (List.length h6)))))
                  ret0 (PV.rp (List.length h6)) h36
                else none
              else none
            else none
          else none
        else none
      else none
    else none
  else none

theorem f74_w1b0_mem (k : Nat) (c74 : PV → Int → Int → (List HE) → (PV → (List HE) → R) → R) (c75 : PV → Int → (List HE) → (Bool → (List HE) → R) → R) (c96 : PV → Int → (List HE) → ((List HE) → R) → R) (c97 : PV → Int → (Bool → R) → R) (c98 : PV → PV → (List HE) → ((List HE) → R) → R) (retF : PV × (List HE) → R) (NX_w1 : St → R) (p1 : PV) (n2 : Int) (n3 : Int) (h6 : List HE) (h8 : List HE) (p19 : PV) (n28 : Int) (h29 : List HE) : exec (f74_E k c74 c75 c96 c97 c98) f74_cw1 (purgeK (f74_E k c74 c75 c96 c97 c98) f74_cw1 (loopK NX_w1 (kont (f74_E k c74 c75 c96 c97 c98) f74_code [1, 1, 1, 1, 1, 0, 1, 0, 1, 1, 1, 1, 1, 0, 1, 1, 0] (endK (f74_E k c74 c75 c96 c97 c98) Try.f74 [1000000000000] f74_un retF)))) (f74_hw1_0 p1 n2 n3 h6 h8 p19 n28 h29) = f74_w1b0 c74 c75 c96 c97 c98 (fun y0 y1 => retF (y0, y1)) (fun n28 h29 => NX_w1 (f74_hw1_0 p1 n2 n3 h6 h8 p19 n28 h29)) p1 n2 n3 h6 h8 p19 n28 h29 := by kernel_rfl

noncomputable def f74_w1b0N (k : Nat) (c74 : PV → Int → Int → (List HE) → (PV → (List HE) → R) → R) (c75 : PV → Int → (List HE) → (Bool → (List HE) → R) → R) (c96 : PV → Int → (List HE) → ((List HE) → R) → R) (c97 : PV → Int → (Bool → R) → R) (c98 : PV → PV → (List HE) → ((List HE) → R) → R) (ret0 : PV → (List HE) → R) (next_w1_0 : Int → (List HE) → R) (p1 : PV) (n2 : Int) (n3 : Int) (h6 : List HE) (h8 : List HE) (p19 : PV) (n28 : Int) (h29 : List HE) : R :=
  f74_w1b0 c74 c75 c96 c97 c98 ret0 next_w1_0 p1 n2 n3 h6 h8 p19 n28 h29
theorem f74_w1b0_eq (k : Nat) (c74 : PV → Int → Int → (List HE) → (PV → (List HE) → R) → R) (c75 : PV → Int → (List HE) → (Bool → (List HE) → R) → R) (c96 : PV → Int → (List HE) → ((List HE) → R) → R) (c97 : PV → Int → (Bool → R) → R) (c98 : PV → PV → (List HE) → ((List HE) → R) → R) (retF : PV × (List HE) → R) (NX_w1 : St → R) (p1 : PV) (n2 : Int) (n3 : Int) (h6 : List HE) (h8 : List HE) (p19 : PV) (n28 : Int) (h29 : List HE) : exec (f74_E k c74 c75 c96 c97 c98) f74_cw1 (purgeK (f74_E k c74 c75 c96 c97 c98) f74_cw1 (loopK NX_w1 (kont (f74_E k c74 c75 c96 c97 c98) f74_code [1, 1, 1, 1, 1, 0, 1, 0, 1, 1, 1, 1, 1, 0, 1, 1, 0] (endK (f74_E k c74 c75 c96 c97 c98) Try.f74 [1000000000000] f74_un retF)))) (f74_hw1_0 p1 n2 n3 h6 h8 p19 n28 h29) = f74_w1b0N k c74 c75 c96 c97 c98 (fun y0 y1 => retF (y0, y1)) (fun n28 h29 => NX_w1 (f74_hw1_0 p1 n2 n3 h6 h8 p19 n28 h29)) p1 n2 n3 h6 h8 p19 n28 h29 :=
  (f74_w1b0_mem k c74 c75 c96 c97 c98 retF NX_w1 p1 n2 n3 h6 h8 p19 n28 h29)

noncomputable def f74_w1B (k : Nat) (c74 : PV → Int → Int → (List HE) → (PV → (List HE) → R) → R) (c75 : PV → Int → (List HE) → (Bool → (List HE) → R) → R) (c96 : PV → Int → (List HE) → ((List HE) → R) → R) (c97 : PV → Int → (Bool → R) → R) (c98 : PV → PV → (List HE) → ((List HE) → R) → R) (ret0 : PV → (List HE) → R) (p1 : PV) (n2 : Int) (n3 : Int) (h6 : List HE) (h8 : List HE) (p19 : PV) (nx : Int × (List HE) → R) : Int × (List HE) → R := (fun s => f74_w1b0N k c74 c75 c96 c97 c98 ret0 (fun n28 h29 => nx (n28, h29)) p1 n2 n3 h6 h8 p19 s.1 s.2)
noncomputable def f74_w1N (k : Nat) (c74 : PV → Int → Int → (List HE) → (PV → (List HE) → R) → R) (c75 : PV → Int → (List HE) → (Bool → (List HE) → R) → R) (c96 : PV → Int → (List HE) → ((List HE) → R) → R) (c97 : PV → Int → (Bool → R) → R) (c98 : PV → PV → (List HE) → ((List HE) → R) → R) (ret0 : PV → (List HE) → R) (p1 : PV) (n2 : Int) (n3 : Int) (h6 : List HE) (h8 : List HE) (p19 : PV) (n28 : Int) (h29 : List HE) : R := loopR (f74_w1B k c74 c75 c96 c97 c98 ret0 p1 n2 n3 h6 h8 p19) k (n28, h29)
theorem f74_w1_eq (k : Nat) (c74 : PV → Int → Int → (List HE) → (PV → (List HE) → R) → R) (c75 : PV → Int → (List HE) → (Bool → (List HE) → R) → R) (c96 : PV → Int → (List HE) → ((List HE) → R) → R) (c97 : PV → Int → (Bool → R) → R) (c98 : PV → PV → (List HE) → ((List HE) → R) → R) (retF : PV × (List HE) → R) (p1 : PV) (n2 : Int) (n3 : Int) (h6 : List HE) (h8 : List HE) (p19 : PV) (n28 : Int) (h29 : List HE) : f74_w1A k c74 c75 c96 c97 c98 retF p1 n2 n3 h6 h8 p19 n28 h29 = f74_w1N k c74 c75 c96 c97 c98 (fun y0 y1 => retF (y0, y1)) p1 n2 n3 h6 h8 p19 n28 h29 :=
  Eq.mp (by kernel_rfl) (loop_sim (E := (f74_E k c74 c75 c96 c97 c98)) (c := f74_cw1) (K := (kont (f74_E k c74 c75 c96 c97 c98) f74_code [1, 1, 1, 1, 1, 0, 1, 0, 1, 1, 1, 1, 1, 0, 1, 1, 0] (endK (f74_E k c74 c75 c96 c97 c98) Try.f74 [1000000000000] f74_un retF))) (S := Int × (List HE)) (fun s => f74_hw1_0 p1 n2 n3 h6 h8 p19 s.1 s.2) (f74_w1B k c74 c75 c96 c97 c98 (fun y0 y1 => retF (y0, y1)) p1 n2 n3 h6 h8 p19) (fun NX s => by
    exact Eq.mp (by kernel_rfl) (f74_w1b0_eq k c74 c75 c96 c97 c98 retF NX p1 n2 n3 h6 h8 p19 s.1 s.2)) k (n28, h29))

noncomputable def f74_cw2 : Code := subC f74_code [1, 1, 1, 1, 1, 0, 1, 0, 1, 1, 1, 1, 1, 1, 1, 1, 1, 0, 1, 1, 0, 0]
noncomputable def f74_hw2_0 (p1 : PV) (n2 : Int) (n3 : Int) (h6 : List HE) (h8 : List HE) (n54 : Int) (h55 : List HE) : St := ⟨[.hval 87 p1, .int .i64 n2, .int .i64 n3, .dead, .dead, .dead, .dead, .dead, .hptr 151 (List.length h6) [], .hptr 122 (PV.rI (PV.fld (hvarOf h8 (PV.rI p1)) 0)) [.el n2], .dead, .dead, .int .i64 n54, .dead, .dead, .dead, .dead, .dead, .dead, .dead, .dead, .dead, .dead, .dead, .dead, .dead, .dead, .dead, .dead, .dead, .dead, .dead, .dead, .dead, .dead, .dead, .dead, .dead, .dead, .dead, .dead, .dead, .dead, .dead, .dead, .dead, .dead, .dead, .dead, .dead, .dead, .dead, .dead, .dead, .dead, .dead, .dead, .dead, .dead, .dead, .dead, .dead, .dead, .dead, .dead, .dead, .dead, .dead, .dead, .dead, .dead, .dead, .dead, .dead, .dead, .dead, .dead, .dead, .dead, .dead, .dead, .dead, .dead, .dead, .dead, .dead, .dead, .dead, .dead, .dead, .dead, .dead, .dead, .dead, .dead, .dead, .dead, .dead, .dead, .dead, .dead, .dead, .dead, .dead, .dead, .dead, .dead, .dead, .dead, .dead, .dead, .dead, .dead, .dead, .dead, .dead, .dead, .dead, .dead, .dead, .dead, .dead, .dead, .dead, .dead, .dead, .dead, .dead, .dead, .dead, .dead, .dead, .dead, .dead, .dead, .dead, .dead, .dead, .dead, .dead, .dead, .dead, .dead, .dead, .dead, .dead, .dead, .dead, .dead, .dead, .dead, .dead, .dead, .dead, .dead, .dead, .dead, .dead, .dead, .dead, .dead, .dead, .dead, .dead, .dead, .dead, .dead, .dead, .dead, .dead, .dead, .dead, .dead, .dead, .dead, .dead, .dead, .dead, .dead, .dead, .dead, .dead, .dead, .dead, .dead, .dead, .dead, .dead, .dead, .dead, .dead, .dead, .dead, .dead, .dead, .dead, .dead, .dead, .dead, .dead, .dead, .dead, .dead, .dead, .dead, .dead], [(1000000000000, .hp h55)]⟩
noncomputable def f74_w2A (k : Nat) (c74 : PV → Int → Int → (List HE) → (PV → (List HE) → R) → R) (c75 : PV → Int → (List HE) → (Bool → (List HE) → R) → R) (c96 : PV → Int → (List HE) → ((List HE) → R) → R) (c97 : PV → Int → (Bool → R) → R) (c98 : PV → PV → (List HE) → ((List HE) → R) → R) (retF : PV × (List HE) → R) (p1 : PV) (n2 : Int) (n3 : Int) (h6 : List HE) (h8 : List HE) (n54 : Int) (h55 : List HE) : R := loopM (f74_E k c74 c75 c96 c97 c98) f74_cw2 (kont (f74_E k c74 c75 c96 c97 c98) f74_code [1, 1, 1, 1, 1, 0, 1, 0, 1, 1, 1, 1, 1, 1, 1, 1, 1, 0, 1, 1, 0] (endK (f74_E k c74 c75 c96 c97 c98) Try.f74 [1000000000000] f74_un retF)) k (f74_hw2_0 p1 n2 n3 h6 h8 n54 h55)
noncomputable def f74_w2b0 (c74 : PV → Int → Int → (List HE) → (PV → (List HE) → R) → R) (c75 : PV → Int → (List HE) → (Bool → (List HE) → R) → R) (c96 : PV → Int → (List HE) → ((List HE) → R) → R) (c97 : PV → Int → (Bool → R) → R) (c98 : PV → PV → (List HE) → ((List HE) → R) → R) (ret0 : PV → (List HE) → R) (next_w2_0 : Int → (List HE) → R) (p1 : PV) (n2 : Int) (n3 : Int) (h6 : List HE) (h8 : List HE) (n54 : Int) (h55 : List HE) : R :=
  bif (PV.isRp p1) then
    bif (true && true && (hokV h55 116 (PV.rI p1))) then
      bif (decide (n54 ≤ (List.length (PV.els (PV.fld (hvarOf h55 (PV.rI p1)) 1)) : Int))) then
        c75 (PV.rp (List.length h6)) n54 h55 fun b56 h57 =>
        bif b56 then
          bif (true && true && (hokR h57 122 (PV.rI (PV.fld (hvarOf h8 (PV.rI p1)) 0)) n2)) then
            bif (true && decide ((0 : Int) ≤ (0 : Int)) && decide ((0 : Int) < ((PV.rN (PV.fld (List.getD (hrowOf h57 (PV.rI (PV.fld (hvarOf h8 (PV.rI p1)) 0))) (n2).toNat PV.nil) 1)) : Int))) then
              bif (true && true && (hokR h57 3 (PV.rI (PV.fld (List.getD (hrowOf h57 (PV.rI (PV.fld (hvarOf h8 (PV.rI p1)) 0))) (n2).toNat PV.nil) 1)) (0 : Int))) then
                let n58 : Int := (PV.num (List.getD (hrowOf h57 (PV.rI (PV.fld (List.getD (hrowOf h57 (PV.rI (PV.fld (hvarOf h8 (PV.rI p1)) 0))) (n2).toNat PV.nil) 1))) ((0 : Int)).toNat PV.nil))
                c74 p1 n58 n54 h57 fun p59 h60 =>
                c98 (PV.rp (List.length h6)) p59 h60 fun h61 =>
                next_w2_0 (IntKind.wrap .i64 (n54 + (1 : Int))) h61
              else none
            else none
          else none
        else next_w2_0 (IntKind.wrap .i64 (n54 + (1 : Int))) h57
      else bif (PV.isRp p1) then
        bif (true && true && (hokV h55 116 (PV.rI p1))) then
          bif (true && decide ((0 : Int) ≤ n2) && decide (n2 < ((PV.rN (PV.fld (hvarOf h55 (PV.rI p1)) 2)) : Int))) then
            bif (true && true && (hokR h55 149 (PV.rI (PV.fld (hvarOf h55 (PV.rI p1)) 2)) n2)) then
              bif (true && decide ((0 : Int) ≤ n3) && decide (n3 < ((PV.rN (List.getD (hrowOf h55 (PV.rI (PV.fld (hvarOf h55 (PV.rI p1)) 2))) (n2).toNat PV.nil)) : Int))) then
                bif (true && (hokR h55 118 (PV.rI (List.getD (hrowOf h55 (PV.rI (PV.fld (hvarOf h55 (PV.rI p1)) 2))) (n2).toNat PV.nil)) n3)) then
                  let h62 : List HE := (List.set h55 (PV.rI (List.getD (hrowOf h55 (PV.rI (PV.fld (hvarOf h55 (PV.rI p1)) 2))) (n2).toNat PV.nil)) (HE.row 118 (List.set (hrowOf h55 (PV.rI (List.getD (hrowOf h55 (PV.rI (PV.fld (hvarOf h55 (PV.rI p1)) 2))) (n2).toNat PV.nil))) (n3).toNat (PV.rp (List.length h6)))))
                  ret0 (PV.rp (List.length h6)) h62
                else none
              else none
            else none
          else none
        else none
      else none
    else none
  else none

theorem f74_w2b0_mem (k : Nat) (c74 : PV → Int → Int → (List HE) → (PV → (List HE) → R) → R) (c75 : PV → Int → (List HE) → (Bool → (List HE) → R) → R) (c96 : PV → Int → (List HE) → ((List HE) → R) → R) (c97 : PV → Int → (Bool → R) → R) (c98 : PV → PV → (List HE) → ((List HE) → R) → R) (retF : PV × (List HE) → R) (NX_w2 : St → R) (p1 : PV) (n2 : Int) (n3 : Int) (h6 : List HE) (h8 : List HE) (n54 : Int) (h55 : List HE) : exec (f74_E k c74 c75 c96 c97 c98) f74_cw2 (purgeK (f74_E k c74 c75 c96 c97 c98) f74_cw2 (loopK NX_w2 (kont (f74_E k c74 c75 c96 c97 c98) f74_code [1, 1, 1, 1, 1, 0, 1, 0, 1, 1, 1, 1, 1, 1, 1, 1, 1, 0, 1, 1, 0] (endK (f74_E k c74 c75 c96 c97 c98) Try.f74 [1000000000000] f74_un retF)))) (f74_hw2_0 p1 n2 n3 h6 h8 n54 h55) = f74_w2b0 c74 c75 c96 c97 c98 (fun y0 y1 => retF (y0, y1)) (fun n54 h55 => NX_w2 (f74_hw2_0 p1 n2 n3 h6 h8 n54 h55)) p1 n2 n3 h6 h8 n54 h55 := by kernel_rfl

noncomputable def f74_w2b0N (k : Nat) (c74 : PV → Int → Int → (List HE) → (PV → (List HE) → R) → R) (c75 : PV → Int → (List HE) → (Bool → (List HE) → R) → R) (c96 : PV → Int → (List HE) → ((List HE) → R) → R) (c97 : PV → Int → (Bool → R) → R) (c98 : PV → PV → (List HE) → ((List HE) → R) → R) (ret0 : PV → (List HE) → R) (next_w2_0 : Int → (List HE) → R) (p1 : PV) (n2 : Int) (n3 : Int) (h6 : List HE) (h8 : List HE) (n54 : Int) (h55 : List HE) : R :=
  f74_w2b0 c74 c75 c96 c97 c98 ret0 next_w2_0 p1 n2 n3 h6 h8 n54 h55
theorem f74_w2b0_eq (k : Nat) (c74 : PV → Int → Int → (List HE) → (PV → (List HE) → R) → R) (c75 : PV → Int → (List HE) → (Bool → (List HE) → R) → R) (c96 : PV → Int → (List HE) → ((List HE) → R) → R) (c97 : PV → Int → (Bool → R) → R) (c98 : PV → PV → (List HE) → ((List HE) → R) → R) (retF : PV × (List HE) → R) (NX_w2 : St → R) (p1 : PV) (n2 : Int) (n3 : Int) (h6 : List HE) (h8 : List HE) (n54 : Int) (h55 : List HE) : exec (f74_E k c74 c75 c96 c97 c98) f74_cw2 (purgeK (f74_E k c74 c75 c96 c97 c98) f74_cw2 (loopK NX_w2 (kont (f74_E k c74 c75 c96 c97 c98) f74_code [1, 1, 1, 1, 1, 0, 1, 0, 1, 1, 1, 1, 1, 1, 1, 1, 1, 0, 1, 1, 0] (endK (f74_E k c74 c75 c96 c97 c98) Try.f74 [1000000000000] f74_un retF)))) (f74_hw2_0 p1 n2 n3 h6 h8 n54 h55) = f74_w2b0N k c74 c75 c96 c97 c98 (fun y0 y1 => retF (y0, y1)) (fun n54 h55 => NX_w2 (f74_hw2_0 p1 n2 n3 h6 h8 n54 h55)) p1 n2 n3 h6 h8 n54 h55 :=
  (f74_w2b0_mem k c74 c75 c96 c97 c98 retF NX_w2 p1 n2 n3 h6 h8 n54 h55)

noncomputable def f74_w2B (k : Nat) (c74 : PV → Int → Int → (List HE) → (PV → (List HE) → R) → R) (c75 : PV → Int → (List HE) → (Bool → (List HE) → R) → R) (c96 : PV → Int → (List HE) → ((List HE) → R) → R) (c97 : PV → Int → (Bool → R) → R) (c98 : PV → PV → (List HE) → ((List HE) → R) → R) (ret0 : PV → (List HE) → R) (p1 : PV) (n2 : Int) (n3 : Int) (h6 : List HE) (h8 : List HE) (nx : Int × (List HE) → R) : Int × (List HE) → R := (fun s => f74_w2b0N k c74 c75 c96 c97 c98 ret0 (fun n54 h55 => nx (n54, h55)) p1 n2 n3 h6 h8 s.1 s.2)
noncomputable def f74_w2N (k : Nat) (c74 : PV → Int → Int → (List HE) → (PV → (List HE) → R) → R) (c75 : PV → Int → (List HE) → (Bool → (List HE) → R) → R) (c96 : PV → Int → (List HE) → ((List HE) → R) → R) (c97 : PV → Int → (Bool → R) → R) (c98 : PV → PV → (List HE) → ((List HE) → R) → R) (ret0 : PV → (List HE) → R) (p1 : PV) (n2 : Int) (n3 : Int) (h6 : List HE) (h8 : List HE) (n54 : Int) (h55 : List HE) : R := loopR (f74_w2B k c74 c75 c96 c97 c98 ret0 p1 n2 n3 h6 h8) k (n54, h55)
theorem f74_w2_eq (k : Nat) (c74 : PV → Int → Int → (List HE) → (PV → (List HE) → R) → R) (c75 : PV → Int → (List HE) → (Bool → (List HE) → R) → R) (c96 : PV → Int → (List HE) → ((List HE) → R) → R) (c97 : PV → Int → (Bool → R) → R) (c98 : PV → PV → (List HE) → ((List HE) → R) → R) (retF : PV × (List HE) → R) (p1 : PV) (n2 : Int) (n3 : Int) (h6 : List HE) (h8 : List HE) (n54 : Int) (h55 : List HE) : f74_w2A k c74 c75 c96 c97 c98 retF p1 n2 n3 h6 h8 n54 h55 = f74_w2N k c74 c75 c96 c97 c98 (fun y0 y1 => retF (y0, y1)) p1 n2 n3 h6 h8 n54 h55 :=
  Eq.mp (by kernel_rfl) (loop_sim (E := (f74_E k c74 c75 c96 c97 c98)) (c := f74_cw2) (K := (kont (f74_E k c74 c75 c96 c97 c98) f74_code [1, 1, 1, 1, 1, 0, 1, 0, 1, 1, 1, 1, 1, 1, 1, 1, 1, 0, 1, 1, 0] (endK (f74_E k c74 c75 c96 c97 c98) Try.f74 [1000000000000] f74_un retF))) (S := Int × (List HE)) (fun s => f74_hw2_0 p1 n2 n3 h6 h8 s.1 s.2) (f74_w2B k c74 c75 c96 c97 c98 (fun y0 y1 => retF (y0, y1)) p1 n2 n3 h6 h8) (fun NX s => by
    exact Eq.mp (by kernel_rfl) (f74_w2b0_eq k c74 c75 c96 c97 c98 retF NX p1 n2 n3 h6 h8 s.1 s.2)) k (n54, h55))

noncomputable def f74_e (c74 : PV → Int → Int → (List HE) → (PV → (List HE) → R) → R) (c75 : PV → Int → (List HE) → (Bool → (List HE) → R) → R) (c96 : PV → Int → (List HE) → ((List HE) → R) → R) (c97 : PV → Int → (Bool → R) → R) (c98 : PV → PV → (List HE) → ((List HE) → R) → R) (ret0 : PV → (List HE) → R) (w1 : (List HE) → (List HE) → PV → Int → (List HE) → R) (w2 : (List HE) → (List HE) → Int → (List HE) → R) (p1 : PV) (n2 : Int) (n3 : Int) (h4 : List HE) : R :=
  bif (PV.isRp p1) then
    bif (true && true && (hokV h4 116 (PV.rI p1))) then
      bif (true && decide ((0 : Int) ≤ n2) && decide (n2 < ((PV.rN (PV.fld (hvarOf h4 (PV.rI p1)) 2)) : Int))) then
        bif (true && true && (hokR h4 149 (PV.rI (PV.fld (hvarOf h4 (PV.rI p1)) 2)) n2)) then
          bif (!(PV.isRs (List.getD (hrowOf h4 (PV.rI (PV.fld (hvarOf h4 (PV.rI p1)) 2))) (n2).toNat PV.nil))) then
            bif (PV.isRp p1) then
              bif (true && true && (hokV h4 116 (PV.rI p1))) then
                bif (PV.isRp p1) then
                  bif (true && true && (hokV h4 116 (PV.rI p1))) then
                    bif (true && (true && decide ((0 : Int) ≤ (IntKind.wrap .i64 ((List.length (PV.els (PV.fld (hvarOf h4 (PV.rI p1)) 1)) : Int) + (1 : Int)))) && decide ((IntKind.wrap .i64 ((List.length (PV.els (PV.fld (hvarOf h4 (PV.rI p1)) 1)) : Int) + (1 : Int))) = (IntKind.wrap .i64 ((List.length (PV.els (PV.fld (hvarOf h4 (PV.rI p1)) 1)) : Int) + (1 : Int)))) && roomy ((IntKind.wrap .i64 ((List.length (PV.els (PV.fld (hvarOf h4 (PV.rI p1)) 1)) : Int) + (1 : Int)))).toNat 8)) then
                      bif (true && decide ((0 : Int) ≤ n2) && decide (n2 < ((PV.rN (PV.fld (hvarOf h4 (PV.rI p1)) 2)) : Int))) then
                        let h5 : List HE := (h4 ++ [HE.row 118 (List.replicate ((IntKind.wrap .i64 ((List.length (PV.els (PV.fld (hvarOf h4 (PV.rI p1)) 1)) : Int) + (1 : Int)))).toNat PV.nil)])
                        bif (true && (hokR h5 149 (PV.rI (PV.fld (hvarOf h4 (PV.rI p1)) 2)) n2)) then
                          let h6 : List HE := (List.set h5 (PV.rI (PV.fld (hvarOf h4 (PV.rI p1)) 2)) (HE.row 149 (List.set (hrowOf h5 (PV.rI (PV.fld (hvarOf h4 (PV.rI p1)) 2))) (n2).toNat (PV.rs (List.length h4) ((IntKind.wrap .i64 ((List.length (PV.els (PV.fld (hvarOf h4 (PV.rI p1)) 1)) : Int) + (1 : Int)))).toNat))))
                          bif (PV.isRp p1) then
                            bif (true && true && (hokV h6 116 (PV.rI p1))) then
                              bif (true && decide ((0 : Int) ≤ n2) && decide (n2 < ((PV.rN (PV.fld (hvarOf h6 (PV.rI p1)) 2)) : Int))) then
                                bif (true && true && (hokR h6 149 (PV.rI (PV.fld (hvarOf h6 (PV.rI p1)) 2)) n2)) then
                                  bif (true && decide ((0 : Int) ≤ n3) && decide (n3 < ((PV.rN (List.getD (hrowOf h6 (PV.rI (PV.fld (hvarOf h6 (PV.rI p1)) 2))) (n2).toNat PV.nil)) : Int))) then
                                    bif (true && true && (hokR h6 118 (PV.rI (List.getD (hrowOf h6 (PV.rI (PV.fld (hvarOf h6 (PV.rI p1)) 2))) (n2).toNat PV.nil)) n3)) then
                                      let p7 : PV := (List.getD (hrowOf h6 (PV.rI (List.getD (hrowOf h6 (PV.rI (PV.fld (hvarOf h6 (PV.rI p1)) 2))) (n2).toNat PV.nil))) (n3).toNat PV.nil)
                                      bif (!(PV.isNil p7)) then
                                        ret0 p7 h6
                                      else let h8 : List HE := (h6 ++ [HE.var 151 (PV.agg [(PV.int 0), (PV.int 0), (PV.int 0), (PV.int 0), (PV.int 0)])])
                                      bif (PV.isRp p1) then
                                        bif (true && true && (hokV h8 116 (PV.rI p1))) then
                                          bif (true && decide ((0 : Int) ≤ n2) && decide (n2 < ((PV.rN (PV.fld (hvarOf h8 (PV.rI p1)) 0)) : Int))) then
                                            bif (true && true && (hokR h8 122 (PV.rI (PV.fld (hvarOf h8 (PV.rI p1)) 0)) n2)) then
                                              let n9 : Int := (PV.num (PV.fld (PV.fld (List.getD (hrowOf h8 (PV.rI (PV.fld (hvarOf h8 (PV.rI p1)) 0))) (n2).toNat PV.nil) 0) 0))
                                              bif (decide (n9 = (1 : Int))) then
                                                c96 (PV.rp (List.length h6)) n3 h8 fun h10 =>
                                                bif (PV.isRp p1) then
                                                  bif (true && true && (hokV h10 116 (PV.rI p1))) then
                                                    bif (true && decide ((0 : Int) ≤ n2) && decide (n2 < ((PV.rN (PV.fld (hvarOf h10 (PV.rI p1)) 2)) : Int))) then
                                                      bif (true && true && (hokR h10 149 (PV.rI (PV.fld (hvarOf h10 (PV.rI p1)) 2)) n2)) then
                                                        bif (true && decide ((0 : Int) ≤ n3) && decide (n3 < ((PV.rN (List.getD (hrowOf h10 (PV.rI (PV.fld (hvarOf h10 (PV.rI p1)) 2))) (n2).toNat PV.nil)) : Int))) then
                                                          bif (true && (hokR h10 118 (PV.rI (List.getD (hrowOf h10 (PV.rI (PV.fld (hvarOf h10 (PV.rI p1)) 2))) (n2).toNat PV.nil)) n3)) then
                                                            let h11 : List HE := (List.set h10 (PV.rI (List.getD (hrowOf h10 (PV.rI (PV.fld (hvarOf h10 (PV.rI p1)) 2))) (n2).toNat PV.nil)) (HE.row 118 (List.set (hrowOf h10 (PV.rI (List.getD (hrowOf h10 (PV.rI (PV.fld (hvarOf h10 (PV.rI p1)) 2))) (n2).toNat PV.nil))) (n3).toNat (PV.rp (List.length h6)))))
                                                            ret0 (PV.rp (List.length h6)) h11
                                                          else none
                                                        else none
                                                      else none
                                                    else none
                                                  else none
                                                else none
                                              else bif (decide (n9 = (2 : Int))) then
                                                bif (PV.isRp p1) then
                                                  bif (true && true && (hokV h8 116 (PV.rI p1))) then
                                                    bif ((decide (n3 < (List.length (PV.els (PV.fld (hvarOf h8 (PV.rI p1)) 1)) : Int))) == true) then
                                                      bif (true && true && (hokR h8 122 (PV.rI (PV.fld (hvarOf h8 (PV.rI p1)) 0)) n2)) then
                                                        let p12 : PV := (PV.fld (PV.fld (List.getD (hrowOf h8 (PV.rI (PV.fld (hvarOf h8 (PV.rI p1)) 0))) (n2).toNat PV.nil) 0) 1)
                                                        bif (PV.isRp p1) then
                                                          bif (true && true && (hokV h8 116 (PV.rI p1))) then
                                                            bif (true && decide ((0 : Int) ≤ n3) && decide (n3 < (List.length (PV.els (PV.fld (hvarOf h8 (PV.rI p1)) 1)) : Int))) then
                                                              c97 p12 (PV.num (List.getD (PV.els (PV.fld (hvarOf h8 (PV.rI p1)) 1)) (n3).toNat PV.nil)) fun b13 =>
                                                              bif b13 then
                                                                c96 (PV.rp (List.length h6)) (IntKind.wrap .i64 (n3 + (1 : Int))) h8 fun h14 =>
                                                                bif (PV.isRp p1) then
                                                                  bif (true && true && (hokV h14 116 (PV.rI p1))) then
                                                                    bif (true && decide ((0 : Int) ≤ n2) && decide (n2 < ((PV.rN (PV.fld (hvarOf h14 (PV.rI p1)) 2)) : Int))) then
                                                                      bif (true && true && (hokR h14 149 (PV.rI (PV.fld (hvarOf h14 (PV.rI p1)) 2)) n2)) then
                                                                        bif (true && decide ((0 : Int) ≤ n3) && decide (n3 < ((PV.rN (List.getD (hrowOf h14 (PV.rI (PV.fld (hvarOf h14 (PV.rI p1)) 2))) (n2).toNat PV.nil)) : Int))) then
                                                                          bif (true && (hokR h14 118 (PV.rI (List.getD (hrowOf h14 (PV.rI (PV.fld (hvarOf h14 (PV.rI p1)) 2))) (n2).toNat PV.nil)) n3)) then
                                                                            let h15 : List HE := (List.set h14 (PV.rI (List.getD (hrowOf h14 (PV.rI (PV.fld (hvarOf h14 (PV.rI p1)) 2))) (n2).toNat PV.nil)) (HE.row 118 (List.set (hrowOf h14 (PV.rI (List.getD (hrowOf h14 (PV.rI (PV.fld (hvarOf h14 (PV.rI p1)) 2))) (n2).toNat PV.nil))) (n3).toNat (PV.rp (List.length h6)))))
                                                                            ret0 (PV.rp (List.length h6)) h15
                                                                          else none
                                                                        else none
                                                                      else none
                                                                    else none
                                                                  else none
                                                                else none
                                                              else bif (PV.isRp p1) then
                                                                bif (true && true && (hokV h8 116 (PV.rI p1))) then
                                                                  bif (true && decide ((0 : Int) ≤ n2) && decide (n2 < ((PV.rN (PV.fld (hvarOf h8 (PV.rI p1)) 2)) : Int))) then
                                                                    bif (true && true && (hokR h8 149 (PV.rI (PV.fld (hvarOf h8 (PV.rI p1)) 2)) n2)) then
                                                                      bif (true && decide ((0 : Int) ≤ n3) && decide (n3 < ((PV.rN (List.getD (hrowOf h8 (PV.rI (PV.fld (hvarOf h8 (PV.rI p1)) 2))) (n2).toNat PV.nil)) : Int))) then
                                                                        bif (true && (hokR h8 118 (PV.rI (List.getD (hrowOf h8 (PV.rI (PV.fld (hvarOf h8 (PV.rI p1)) 2))) (n2).toNat PV.nil)) n3)) then
                                                                          let h16 : List HE := (List.set h8 (PV.rI (List.getD (hrowOf h8 (PV.rI (PV.fld (hvarOf h8 (PV.rI p1)) 2))) (n2).toNat PV.nil)) (HE.row 118 (List.set (hrowOf h8 (PV.rI (List.getD (hrowOf h8 (PV.rI (PV.fld (hvarOf h8 (PV.rI p1)) 2))) (n2).toNat PV.nil))) (n3).toNat (PV.rp (List.length h6)))))
                                                                          ret0 (PV.rp (List.length h6)) h16
                                                                        else none
                                                                      else none
                                                                    else none
                                                                  else none
                                                                else none
                                                              else none
                                                            else none
                                                          else none
                                                        else none
                                                      else none
                                                    else bif (PV.isRp p1) then
                                                      bif (true && true && (hokV h8 116 (PV.rI p1))) then
                                                        bif (true && decide ((0 : Int) ≤ n2) && decide (n2 < ((PV.rN (PV.fld (hvarOf h8 (PV.rI p1)) 2)) : Int))) then
                                                          bif (true && true && (hokR h8 149 (PV.rI (PV.fld (hvarOf h8 (PV.rI p1)) 2)) n2)) then
                                                            bif (true && decide ((0 : Int) ≤ n3) && decide (n3 < ((PV.rN (List.getD (hrowOf h8 (PV.rI (PV.fld (hvarOf h8 (PV.rI p1)) 2))) (n2).toNat PV.nil)) : Int))) then
                                                              bif (true && (hokR h8 118 (PV.rI (List.getD (hrowOf h8 (PV.rI (PV.fld (hvarOf h8 (PV.rI p1)) 2))) (n2).toNat PV.nil)) n3)) then
                                                                let h17 : List HE := (List.set h8 (PV.rI (List.getD (hrowOf h8 (PV.rI (PV.fld (hvarOf h8 (PV.rI p1)) 2))) (n2).toNat PV.nil)) (HE.row 118 (List.set (hrowOf h8 (PV.rI (List.getD (hrowOf h8 (PV.rI (PV.fld (hvarOf h8 (PV.rI p1)) 2))) (n2).toNat PV.nil))) (n3).toNat (PV.rp (List.length h6)))))
                                                                ret0 (PV.rp (List.length h6)) h17
                                                              else none
                                                            else none
                                                          else none
                                                        else none
                                                      else none
                                                    else none
                                                  else none
                                                else none
                                              else bif (decide (n9 = (3 : Int))) then
                                                bif (true && true && (hokR h8 122 (PV.rI (PV.fld (hvarOf h8 (PV.rI p1)) 0)) n2)) then
                                                  bif (true && decide ((0 : Int) ≤ (0 : Int)) && decide ((0 : Int) < ((PV.rN (PV.fld (List.getD (hrowOf h8 (PV.rI (PV.fld (hvarOf h8 (PV.rI p1)) 0))) (n2).toNat PV.nil) 1)) : Int))) then
                                                    bif (true && true && (hokR h8 3 (PV.rI (PV.fld (List.getD (hrowOf h8 (PV.rI (PV.fld (hvarOf h8 (PV.rI p1)) 0))) (n2).toNat PV.nil) 1)) (0 : Int))) then
                                                      let n18 : Int := (PV.num (List.getD (hrowOf h8 (PV.rI (PV.fld (List.getD (hrowOf h8 (PV.rI (PV.fld (hvarOf h8 (PV.rI p1)) 0))) (n2).toNat PV.nil) 1))) ((0 : Int)).toNat PV.nil))
                                                      c74 p1 n18 n3 h8 fun p19 h20 =>
                                                      w1 h6 h8 p19 n3 h20
                                                    else none
                                                  else none
                                                else none
                                              else bif (decide (n9 = (4 : Int))) then
                                                bif (true && true && (hokR h8 122 (PV.rI (PV.fld (hvarOf h8 (PV.rI p1)) 0)) n2)) then
                                                  bif (true && decide ((0 : Int) ≤ (0 : Int)) && decide ((0 : Int) < ((PV.rN (PV.fld (List.getD (hrowOf h8 (PV.rI (PV.fld (hvarOf h8 (PV.rI p1)) 0))) (n2).toNat PV.nil) 1)) : Int))) then
                                                    bif (true && true && (hokR h8 3 (PV.rI (PV.fld (List.getD (hrowOf h8 (PV.rI (PV.fld (hvarOf h8 (PV.rI p1)) 0))) (n2).toNat PV.nil) 1)) (0 : Int))) then
                                                      let n37 : Int := (PV.num (List.getD (hrowOf h8 (PV.rI (PV.fld (List.getD (hrowOf h8 (PV.rI (PV.fld (hvarOf h8 (PV.rI p1)) 0))) (n2).toNat PV.nil) 1))) ((0 : Int)).toNat PV.nil))
                                                      c74 p1 n37 n3 h8 fun p38 h39 =>
                                                      c98 (PV.rp (List.length h6)) p38 h39 fun h40 =>
                                                      bif (true && true && (hokR h40 122 (PV.rI (PV.fld (hvarOf h8 (PV.rI p1)) 0)) n2)) then
                                                        bif (true && decide ((0 : Int) ≤ (1 : Int)) && decide ((1 : Int) < ((PV.rN (PV.fld (List.getD (hrowOf h40 (PV.rI (PV.fld (hvarOf h8 (PV.rI p1)) 0))) (n2).toNat PV.nil) 1)) : Int))) then
                                                          bif (true && true && (hokR h40 3 (PV.rI (PV.fld (List.getD (hrowOf h40 (PV.rI (PV.fld (hvarOf h8 (PV.rI p1)) 0))) (n2).toNat PV.nil) 1)) (1 : Int))) then
                                                            let n41 : Int := (PV.num (List.getD (hrowOf h40 (PV.rI (PV.fld (List.getD (hrowOf h40 (PV.rI (PV.fld (hvarOf h8 (PV.rI p1)) 0))) (n2).toNat PV.nil) 1))) ((1 : Int)).toNat PV.nil))
                                                            c74 p1 n41 n3 h40 fun p42 h43 =>
                                                            c98 (PV.rp (List.length h6)) p42 h43 fun h44 =>
                                                            bif (PV.isRp p1) then
                                                              bif (true && true && (hokV h44 116 (PV.rI p1))) then
                                                                bif (true && decide ((0 : Int) ≤ n2) && decide (n2 < ((PV.rN (PV.fld (hvarOf h44 (PV.rI p1)) 2)) : Int))) then
                                                                  bif (true && true && (hokR h44 149 (PV.rI (PV.fld (hvarOf h44 (PV.rI p1)) 2)) n2)) then
                                                                    bif (true && decide ((0 : Int) ≤ n3) && decide (n3 < ((PV.rN (List.getD (hrowOf h44 (PV.rI (PV.fld (hvarOf h44 (PV.rI p1)) 2))) (n2).toNat PV.nil)) : Int))) then
                                                                      bif (true && (hokR h44 118 (PV.rI (List.getD (hrowOf h44 (PV.rI (PV.fld (hvarOf h44 (PV.rI p1)) 2))) (n2).toNat PV.nil)) n3)) then
                                                                        let h45 : List HE := (List.set h44 (PV.rI (List.getD (hrowOf h44 (PV.rI (PV.fld (hvarOf h44 (PV.rI p1)) 2))) (n2).toNat PV.nil)) (HE.row 118 (List.set (hrowOf h44 (PV.rI (List.getD (hrowOf h44 (PV.rI (PV.fld (hvarOf h44 (PV.rI p1)) 2))) (n2).toNat PV.nil))) (n3).toNat (PV.rp (List.length h6)))))
                                                                        ret0 (PV.rp (List.length h6)) h45
                                                                      else none
                                                                    else none
                                                                  else none
                                                                else none
                                                              else none
                                                            else none
                                                          else none
                                                        else none
                                                      else none
                                                    else none
                                                  else none
                                                else none
                                              else bif (decide (n9 = (5 : Int))) then
                                                c96 (PV.rp (List.length h6)) n3 h8 fun h46 =>
                                                w2 h6 h8 n3 h46
                                              else bif (decide (n9 = (6 : Int))) then
                                                bif (true && true && (hokR h8 122 (PV.rI (PV.fld (hvarOf h8 (PV.rI p1)) 0)) n2)) then
                                                  bif (true && decide ((0 : Int) ≤ (0 : Int)) && decide ((0 : Int) < ((PV.rN (PV.fld (List.getD (hrowOf h8 (PV.rI (PV.fld (hvarOf h8 (PV.rI p1)) 0))) (n2).toNat PV.nil) 1)) : Int))) then
                                                    bif (true && true && (hokR h8 3 (PV.rI (PV.fld (List.getD (hrowOf h8 (PV.rI (PV.fld (hvarOf h8 (PV.rI p1)) 0))) (n2).toNat PV.nil) 1)) (0 : Int))) then
                                                      let n63 : Int := (PV.num (List.getD (hrowOf h8 (PV.rI (PV.fld (List.getD (hrowOf h8 (PV.rI (PV.fld (hvarOf h8 (PV.rI p1)) 0))) (n2).toNat PV.nil) 1))) ((0 : Int)).toNat PV.nil))
                                                      c74 p1 n63 n3 h8 fun p64 h65 =>
                                                      c98 (PV.rp (List.length h6)) p64 h65 fun h66 =>
                                                      bif (PV.isRp p1) then
                                                        bif (true && true && (hokV h66 116 (PV.rI p1))) then
                                                          bif (true && decide ((0 : Int) ≤ n2) && decide (n2 < ((PV.rN (PV.fld (hvarOf h66 (PV.rI p1)) 2)) : Int))) then
                                                            bif (true && true && (hokR h66 149 (PV.rI (PV.fld (hvarOf h66 (PV.rI p1)) 2)) n2)) then
                                                              bif (true && decide ((0 : Int) ≤ n3) && decide (n3 < ((PV.rN (List.getD (hrowOf h66 (PV.rI (PV.fld (hvarOf h66 (PV.rI p1)) 2))) (n2).toNat PV.nil)) : Int))) then
                                                                bif (true && (hokR h66 118 (PV.rI (List.getD (hrowOf h66 (PV.rI (PV.fld (hvarOf h66 (PV.rI p1)) 2))) (n2).toNat PV.nil)) n3)) then
                                                                  let h67 : List HE := (List.set h66 (PV.rI (List.getD (hrowOf h66 (PV.rI (PV.fld (hvarOf h66 (PV.rI p1)) 2))) (n2).toNat PV.nil)) (HE.row 118 (List.set (hrowOf h66 (PV.rI (List.getD (hrowOf h66 (PV.rI (PV.fld (hvarOf h66 (PV.rI p1)) 2))) (n2).toNat PV.nil))) (n3).toNat (PV.rp (List.length h6)))))
                                                                  ret0 (PV.rp (List.length h6)) h67
                                                                else none
                                                              else none
                                                            else none
                                                          else none
                                                        else none
                                                      else none
                                                    else none
                                                  else none
                                                else none
                                              else bif (decide (n9 = (7 : Int))) then
                                                bif (true && true && (hokR h8 122 (PV.rI (PV.fld (hvarOf h8 (PV.rI p1)) 0)) n2)) then
                                                  bif (true && decide ((0 : Int) ≤ (0 : Int)) && decide ((0 : Int) < ((PV.rN (PV.fld (List.getD (hrowOf h8 (PV.rI (PV.fld (hvarOf h8 (PV.rI p1)) 0))) (n2).toNat PV.nil) 1)) : Int))) then
                                                    bif (true && true && (hokR h8 3 (PV.rI (PV.fld (List.getD (hrowOf h8 (PV.rI (PV.fld (hvarOf h8 (PV.rI p1)) 0))) (n2).toNat PV.nil) 1)) (0 : Int))) then
                                                      let n68 : Int := (PV.num (List.getD (hrowOf h8 (PV.rI (PV.fld (List.getD (hrowOf h8 (PV.rI (PV.fld (hvarOf h8 (PV.rI p1)) 0))) (n2).toNat PV.nil) 1))) ((0 : Int)).toNat PV.nil))
                                                      c74 p1 n68 n3 h8 fun p69 h70 =>
                                                      c98 (PV.rp (List.length h6)) p69 h70 fun h71 =>
                                                      bif (PV.isRp p1) then
                                                        bif (true && true && (hokV h71 116 (PV.rI p1))) then
                                                          bif (true && decide ((0 : Int) ≤ n2) && decide (n2 < ((PV.rN (PV.fld (hvarOf h71 (PV.rI p1)) 2)) : Int))) then
                                                            bif (true && true && (hokR h71 149 (PV.rI (PV.fld (hvarOf h71 (PV.rI p1)) 2)) n2)) then
                                                              bif (true && decide ((0 : Int) ≤ n3) && decide (n3 < ((PV.rN (List.getD (hrowOf h71 (PV.rI (PV.fld (hvarOf h71 (PV.rI p1)) 2))) (n2).toNat PV.nil)) : Int))) then
                                                                bif (true && (hokR h71 118 (PV.rI (List.getD (hrowOf h71 (PV.rI (PV.fld (hvarOf h71 (PV.rI p1)) 2))) (n2).toNat PV.nil)) n3)) then
                                                                  let h72 : List HE := (List.set h71 (PV.rI (List.getD (hrowOf h71 (PV.rI (PV.fld (hvarOf h71 (PV.rI p1)) 2))) (n2).toNat PV.nil)) (HE.row 118 (List.set (hrowOf h71 (PV.rI (List.getD (hrowOf h71 (PV.rI (PV.fld (hvarOf h71 (PV.rI p1)) 2))) (n2).toNat PV.nil))) (n3).toNat (PV.rp (List.length h6)))))
                                                                  ret0 (PV.rp (List.length h6)) h72
                                                                else none
                                                              else none
                                                            else none
                                                          else none
                                                        else none
                                                      else none
                                                    else none
                                                  else none
                                                else none
                                              else bif (PV.isRp p1) then
                                                bif (true && true && (hokV h8 116 (PV.rI p1))) then
                                                  bif (true && decide ((0 : Int) ≤ n2) && decide (n2 < ((PV.rN (PV.fld (hvarOf h8 (PV.rI p1)) 2)) : Int))) then
                                                    bif (true && true && (hokR h8 149 (PV.rI (PV.fld (hvarOf h8 (PV.rI p1)) 2)) n2)) then
                                                      bif (true && decide ((0 : Int) ≤ n3) && decide (n3 < ((PV.rN (List.getD (hrowOf h8 (PV.rI (PV.fld (hvarOf h8 (PV.rI p1)) 2))) (n2).toNat PV.nil)) : Int))) then
                                                        bif (true && (hokR h8 118 (PV.rI (List.getD (hrowOf h8 (PV.rI (PV.fld (hvarOf h8 (PV.rI p1)) 2))) (n2).toNat PV.nil)) n3)) then
                                                          let h73 : List HE := (List.set h8 (PV.rI (List.getD (hrowOf h8 (PV.rI (PV.fld (hvarOf h8 (PV.rI p1)) 2))) (n2).toNat PV.nil)) (HE.row 118 (List.set (hrowOf h8 (PV.rI (List.getD (hrowOf h8 (PV.rI (PV.fld (hvarOf h8 (PV.rI p1)) 2))) (n2).toNat PV.nil))) (n3).toNat (PV.rp (List.length h6)))))
                                                          ret0 (PV.rp (List.length h6)) h73
                                                        else none
                                                      else none
                                                    else none
                                                  else none
                                                else none
                                              else none
                                            else none
                                          else none
                                        else none
                                      else none
                                    else none
                                  else none
                                else none
                              else none
                            else none
                          else none
                        else none
                      else none
                    else none
                  else none
                else none
              else none
            else none
          else bif (PV.isRp p1) then
            bif (true && true && (hokV h4 116 (PV.rI p1))) then
              bif (true && decide ((0 : Int) ≤ n2) && decide (n2 < ((PV.rN (PV.fld (hvarOf h4 (PV.rI p1)) 2)) : Int))) then
                bif (true && true && (hokR h4 149 (PV.rI (PV.fld (hvarOf h4 (PV.rI p1)) 2)) n2)) then
                  bif (true && decide ((0 : Int) ≤ n3) && decide (n3 < ((PV.rN (List.getD (hrowOf h4 (PV.rI (PV.fld (hvarOf h4 (PV.rI p1)) 2))) (n2).toNat PV.nil)) : Int))) then
                    bif (true && true && (hokR h4 118 (PV.rI (List.getD (hrowOf h4 (PV.rI (PV.fld (hvarOf h4 (PV.rI p1)) 2))) (n2).toNat PV.nil)) n3)) then
                      let p74 : PV := (List.getD (hrowOf h4 (PV.rI (List.getD (hrowOf h4 (PV.rI (PV.fld (hvarOf h4 (PV.rI p1)) 2))) (n2).toNat PV.nil))) (n3).toNat PV.nil)
                      bif (!(PV.isNil p74)) then
                        ret0 p74 h4
                      else let h75 : List HE := (h4 ++ [HE.var 151 (PV.agg [(PV.int 0), (PV.int 0), (PV.int 0), (PV.int 0), (PV.int 0)])])
                      bif (PV.isRp p1) then
                        bif (true && true && (hokV h75 116 (PV.rI p1))) then
                          bif (true && decide ((0 : Int) ≤ n2) && decide (n2 < ((PV.rN (PV.fld (hvarOf h75 (PV.rI p1)) 0)) : Int))) then
                            bif (true && true && (hokR h75 122 (PV.rI (PV.fld (hvarOf h75 (PV.rI p1)) 0)) n2)) then
                              let n76 : Int := (PV.num (PV.fld (PV.fld (List.getD (hrowOf h75 (PV.rI (PV.fld (hvarOf h75 (PV.rI p1)) 0))) (n2).toNat PV.nil) 0) 0))
                              bif (decide (n76 = (1 : Int))) then
                                c96 (PV.rp (List.length h4)) n3 h75 fun h77 =>
                                bif (PV.isRp p1) then
                                  bif (true && true && (hokV h77 116 (PV.rI p1))) then
                                    bif (true && decide ((0 : Int) ≤ n2) && decide (n2 < ((PV.rN (PV.fld (hvarOf h77 (PV.rI p1)) 2)) : Int))) then
                                      bif (true && true && (hokR h77 149 (PV.rI (PV.fld (hvarOf h77 (PV.rI p1)) 2)) n2)) then
                                        bif (true && decide ((0 : Int) ≤ n3) && decide (n3 < ((PV.rN (List.getD (hrowOf h77 (PV.rI (PV.fld (hvarOf h77 (PV.rI p1)) 2))) (n2).toNat PV.nil)) : Int))) then
                                          bif (true && (hokR h77 118 (PV.rI (List.getD (hrowOf h77 (PV.rI (PV.fld (hvarOf h77 (PV.rI p1)) 2))) (n2).toNat PV.nil)) n3)) then
                                            let h78 : List HE := (List.set h77 (PV.rI (List.getD (hrowOf h77 (PV.rI (PV.fld (hvarOf h77 (PV.rI p1)) 2))) (n2).toNat PV.nil)) (HE.row 118 (List.set (hrowOf h77 (PV.rI (List.getD (hrowOf h77 (PV.rI (PV.fld (hvarOf h77 (PV.rI p1)) 2))) (n2).toNat PV.nil))) (n3).toNat (PV.rp (List.length h4)))))
                                            ret0 (PV.rp (List.length h4)) h78
                                          else none
                                        else none
                                      else none
                                    else none
                                  else none
                                else none
                              else bif (decide (n76 = (2 : Int))) then
                                bif (PV.isRp p1) then
                                  bif (true && true && (hokV h75 116 (PV.rI p1))) then
                                    bif ((decide (n3 < (List.length (PV.els (PV.fld (hvarOf h75 (PV.rI p1)) 1)) : Int))) == true) then
                                      bif (true && true && (hokR h75 122 (PV.rI (PV.fld (hvarOf h75 (PV.rI p1)) 0)) n2)) then
                                        let p79 : PV := (PV.fld (PV.fld (List.getD (hrowOf h75 (PV.rI (PV.fld (hvarOf h75 (PV.rI p1)) 0))) (n2).toNat PV.nil) 0) 1)
                                        bif (PV.isRp p1) then
                                          bif (true && true && (hokV h75 116 (PV.rI p1))) then
                                            bif (true && decide ((0 : Int) ≤ n3) && decide (n3 < (List.length (PV.els (PV.fld (hvarOf h75 (PV.rI p1)) 1)) : Int))) then
                                              c97 p79 (PV.num (List.getD (PV.els (PV.fld (hvarOf h75 (PV.rI p1)) 1)) (n3).toNat PV.nil)) fun b80 =>
                                              bif b80 then
                                                c96 (PV.rp (List.length h4)) (IntKind.wrap .i64 (n3 + (1 : Int))) h75 fun h81 =>
                                                bif (PV.isRp p1) then
                                                  bif (true && true && (hokV h81 116 (PV.rI p1))) then
                                                    bif (true && decide ((0 : Int) ≤ n2) && decide (n2 < ((PV.rN (PV.fld (hvarOf h81 (PV.rI p1)) 2)) : Int))) then
                                                      bif (true && true && (hokR h81 149 (PV.rI (PV.fld (hvarOf h81 (PV.rI p1)) 2)) n2)) then
                                                        bif (true && decide ((0 : Int) ≤ n3) && decide (n3 < ((PV.rN (List.getD (hrowOf h81 (PV.rI (PV.fld (hvarOf h81 (PV.rI p1)) 2))) (n2).toNat PV.nil)) : Int))) then
                                                          bif (true && (hokR h81 118 (PV.rI (List.getD (hrowOf h81 (PV.rI (PV.fld (hvarOf h81 (PV.rI p1)) 2))) (n2).toNat PV.nil)) n3)) then
                                                            let h82 : List HE := (List.set h81 (PV.rI (List.getD (hrowOf h81 (PV.rI (PV.fld (hvarOf h81 (PV.rI p1)) 2))) (n2).toNat PV.nil)) (HE.row 118 (List.set (hrowOf h81 (PV.rI (List.getD (hrowOf h81 (PV.rI (PV.fld (hvarOf h81 (PV.rI p1)) 2))) (n2).toNat PV.nil))) (n3).toNat (PV.rp (List.length h4)))))
                                                            ret0 (PV.rp (List.length h4)) h82
                                                          else none
                                                        else none
                                                      else none
                                                    else none
                                                  else none
                                                else none
                                              else bif (PV.isRp p1) then
                                                bif (true && true && (hokV h75 116 (PV.rI p1))) then
                                                  bif (true && decide ((0 : Int) ≤ n2) && decide (n2 < ((PV.rN (PV.fld (hvarOf h75 (PV.rI p1)) 2)) : Int))) then
                                                    bif (true && true && (hokR h75 149 (PV.rI (PV.fld (hvarOf h75 (PV.rI p1)) 2)) n2)) then
                                                      bif (true && decide ((0 : Int) ≤ n3) && decide (n3 < ((PV.rN (List.getD (hrowOf h75 (PV.rI (PV.fld (hvarOf h75 (PV.rI p1)) 2))) (n2).toNat PV.nil)) : Int))) then
                                                        bif (true && (hokR h75 118 (PV.rI (List.getD (hrowOf h75 (PV.rI (PV.fld (hvarOf h75 (PV.rI p1)) 2))) (n2).toNat PV.nil)) n3)) then
                                                          let h83 : List HE := (List.set h75 (PV.rI (List.getD (hrowOf h75 (PV.rI (PV.fld (hvarOf h75 (PV.rI p1)) 2))) (n2).toNat PV.nil)) (HE.row 118 (List.set (hrowOf h75 (PV.rI (List.getD (hrowOf h75 (PV.rI (PV.fld (hvarOf h75 (PV.rI p1)) 2))) (n2).toNat PV.nil))) (n3).toNat (PV.rp (List.length h4)))))
                                                          ret0 (PV.rp (List.length h4)) h83
                                                        else none
                                                      else none
                                                    else none
                                                  else none
                                                else none
                                              else none
                                            else none
                                          else none
                                        else none
                                      else none
                                    else bif (PV.isRp p1) then
                                      bif (true && true && (hokV h75 116 (PV.rI p1))) then
                                        bif (true && decide ((0 : Int) ≤ n2) && decide (n2 < ((PV.rN (PV.fld (hvarOf h75 (PV.rI p1)) 2)) : Int))) then
                                          bif (true && true && (hokR h75 149 (PV.rI (PV.fld (hvarOf h75 (PV.rI p1)) 2)) n2)) then
                                            bif (true && decide ((0 : Int) ≤ n3) && decide (n3 < ((PV.rN (List.getD (hrowOf h75 (PV.rI (PV.fld (hvarOf h75 (PV.rI p1)) 2))) (n2).toNat PV.nil)) : Int))) then
                                              bif (true && (hokR h75 118 (PV.rI (List.getD (hrowOf h75 (PV.rI (PV.fld (hvarOf h75 (PV.rI p1)) 2))) (n2).toNat PV.nil)) n3)) then
                                                let h84 : List HE := (List.set h75 (PV.rI (List.getD (hrowOf h75 (PV.rI (PV.fld (hvarOf h75 (PV.rI p1)) 2))) (n2).toNat PV.nil)) (HE.row 118 (List.set (hrowOf h75 (PV.rI (List.getD (hrowOf h75 (PV.rI (PV.fld (hvarOf h75 (PV.rI p1)) 2))) (n2).toNat PV.nil))) (n3).toNat (PV.rp (List.length h4)))))
                                                ret0 (PV.rp (List.length h4)) h84
                                              else none
                                            else none
                                          else none
                                        else none
                                      else none
                                    else none
                                  else none
                                else none
                              else bif (decide (n76 = (3 : Int))) then
                                bif (true && true && (hokR h75 122 (PV.rI (PV.fld (hvarOf h75 (PV.rI p1)) 0)) n2)) then
                                  bif (true && decide ((0 : Int) ≤ (0 : Int)) && decide ((0 : Int) < ((PV.rN (PV.fld (List.getD (hrowOf h75 (PV.rI (PV.fld (hvarOf h75 (PV.rI p1)) 0))) (n2).toNat PV.nil) 1)) : Int))) then
                                    bif (true && true && (hokR h75 3 (PV.rI (PV.fld (List.getD (hrowOf h75 (PV.rI (PV.fld (hvarOf h75 (PV.rI p1)) 0))) (n2).toNat PV.nil) 1)) (0 : Int))) then
                                      let n85 : Int := (PV.num (List.getD (hrowOf h75 (PV.rI (PV.fld (List.getD (hrowOf h75 (PV.rI (PV.fld (hvarOf h75 (PV.rI p1)) 0))) (n2).toNat PV.nil) 1))) ((0 : Int)).toNat PV.nil))
                                      c74 p1 n85 n3 h75 fun p86 h87 =>
                                      w1 h4 h75 p86 n3 h87
                                    else none
                                  else none
                                else none
                              else bif (decide (n76 = (4 : Int))) then
                                bif (true && true && (hokR h75 122 (PV.rI (PV.fld (hvarOf h75 (PV.rI p1)) 0)) n2)) then
                                  bif (true && decide ((0 : Int) ≤ (0 : Int)) && decide ((0 : Int) < ((PV.rN (PV.fld (List.getD (hrowOf h75 (PV.rI (PV.fld (hvarOf h75 (PV.rI p1)) 0))) (n2).toNat PV.nil) 1)) : Int))) then
                                    bif (true && true && (hokR h75 3 (PV.rI (PV.fld (List.getD (hrowOf h75 (PV.rI (PV.fld (hvarOf h75 (PV.rI p1)) 0))) (n2).toNat PV.nil) 1)) (0 : Int))) then
                                      let n104 : Int := (PV.num (List.getD (hrowOf h75 (PV.rI (PV.fld (List.getD (hrowOf h75 (PV.rI (PV.fld (hvarOf h75 (PV.rI p1)) 0))) (n2).toNat PV.nil) 1))) ((0 : Int)).toNat PV.nil))
                                      c74 p1 n104 n3 h75 fun p105 h106 =>
                                      c98 (PV.rp (List.length h4)) p105 h106 fun h107 =>
                                      bif (true && true && (hokR h107 122 (PV.rI (PV.fld (hvarOf h75 (PV.rI p1)) 0)) n2)) then
                                        bif (true && decide ((0 : Int) ≤ (1 : Int)) && decide ((1 : Int) < ((PV.rN (PV.fld (List.getD (hrowOf h107 (PV.rI (PV.fld (hvarOf h75 (PV.rI p1)) 0))) (n2).toNat PV.nil) 1)) : Int))) then
                                          bif (true && true && (hokR h107 3 (PV.rI (PV.fld (List.getD (hrowOf h107 (PV.rI (PV.fld (hvarOf h75 (PV.rI p1)) 0))) (n2).toNat PV.nil) 1)) (1 : Int))) then
                                            let n108 : Int := (PV.num (List.getD (hrowOf h107 (PV.rI (PV.fld (List.getD (hrowOf h107 (PV.rI (PV.fld (hvarOf h75 (PV.rI p1)) 0))) (n2).toNat PV.nil) 1))) ((1 : Int)).toNat PV.nil))
                                            c74 p1 n108 n3 h107 fun p109 h110 =>
                                            c98 (PV.rp (List.length h4)) p109 h110 fun h111 =>
                                            bif (PV.isRp p1) then
                                              bif (true && true && (hokV h111 116 (PV.rI p1))) then
                                                bif (true && decide ((0 : Int) ≤ n2) && decide (n2 < ((PV.rN (PV.fld (hvarOf h111 (PV.rI p1)) 2)) : Int))) then
                                                  bif (true && true && (hokR h111 149 (PV.rI (PV.fld (hvarOf h111 (PV.rI p1)) 2)) n2)) then
                                                    bif (true && decide ((0 : Int) ≤ n3) && decide (n3 < ((PV.rN (List.getD (hrowOf h111 (PV.rI (PV.fld (hvarOf h111 (PV.rI p1)) 2))) (n2).toNat PV.nil)) : Int))) then
                                                      bif (true && (hokR h111 118 (PV.rI (List.getD (hrowOf h111 (PV.rI (PV.fld (hvarOf h111 (PV.rI p1)) 2))) (n2).toNat PV.nil)) n3)) then
                                                        let h112 : List HE := (List.set h111 (PV.rI (List.getD (hrowOf h111 (PV.rI (PV.fld (hvarOf h111 (PV.rI p1)) 2))) (n2).toNat PV.nil)) (HE.row 118 (List.set (hrowOf h111 (PV.rI (List.getD (hrowOf h111 (PV.rI (PV.fld (hvarOf h111 (PV.rI p1)) 2))) (n2).toNat PV.nil))) (n3).toNat (PV.rp (List.length h4)))))
                                                        ret0 (PV.rp (List.length h4)) h112
                                                      else none
                                                    else none
                                                  else none
                                                else none
                                              else none
                                            else none
                                          else none
                                        else none
                                      else none
                                    else none
                                  else none
                                else none
                              else bif (decide (n76 = (5 : Int))) then
                                c96 (PV.rp (List.length h4)) n3 h75 fun h113 =>
                                w2 h4 h75 n3 h113
                              else bif (decide (n76 = (6 : Int))) then
                                bif (true && true && (hokR h75 122 (PV.rI (PV.fld (hvarOf h75 (PV.rI p1)) 0)) n2)) then
                                  bif (true && decide ((0 : Int) ≤ (0 : Int)) && decide ((0 : Int) < ((PV.rN (PV.fld (List.getD (hrowOf h75 (PV.rI (PV.fld (hvarOf h75 (PV.rI p1)) 0))) (n2).toNat PV.nil) 1)) : Int))) then
                                    bif (true && true && (hokR h75 3 (PV.rI (PV.fld (List.getD (hrowOf h75 (PV.rI (PV.fld (hvarOf h75 (PV.rI p1)) 0))) (n2).toNat PV.nil) 1)) (0 : Int))) then
                                      let n130 : Int := (PV.num (List.getD (hrowOf h75 (PV.rI (PV.fld (List.getD (hrowOf h75 (PV.rI (PV.fld (hvarOf h75 (PV.rI p1)) 0))) (n2).toNat PV.nil) 1))) ((0 : Int)).toNat PV.nil))
                                      c74 p1 n130 n3 h75 fun p131 h132 =>
                                      c98 (PV.rp (List.length h4)) p131 h132 fun h133 =>
                                      bif (PV.isRp p1) then
                                        bif (true && true && (hokV h133 116 (PV.rI p1))) then
                                          bif (true && decide ((0 : Int) ≤ n2) && decide (n2 < ((PV.rN (PV.fld (hvarOf h133 (PV.rI p1)) 2)) : Int))) then
                                            bif (true && true && (hokR h133 149 (PV.rI (PV.fld (hvarOf h133 (PV.rI p1)) 2)) n2)) then
                                              bif (true && decide ((0 : Int) ≤ n3) && decide (n3 < ((PV.rN (List.getD (hrowOf h133 (PV.rI (PV.fld (hvarOf h133 (PV.rI p1)) 2))) (n2).toNat PV.nil)) : Int))) then
                                                bif (true && (hokR h133 118 (PV.rI (List.getD (hrowOf h133 (PV.rI (PV.fld (hvarOf h133 (PV.rI p1)) 2))) (n2).toNat PV.nil)) n3)) then
                                                  let h134 : List HE := (List.set h133 (PV.rI (List.getD (hrowOf h133 (PV.rI (PV.fld (hvarOf h133 (PV.rI p1)) 2))) (n2).toNat PV.nil)) (HE.row 118 (List.set (hrowOf h133 (PV.rI (List.getD (hrowOf h133 (PV.rI (PV.fld (hvarOf h133 (PV.rI p1)) 2))) (n2).toNat PV.nil))) (n3).toNat (PV.rp (List.length h4)))))
                                                  ret0 (PV.rp (List.length h4)) h134
                                                else none
                                              else none
                                            else none
                                          else none
                                        else none
                                      else none
                                    else none
                                  else none
                                else none
                              else bif (decide (n76 = (7 : Int))) then
                                bif (true && true && (hokR h75 122 (PV.rI (PV.fld (hvarOf h75 (PV.rI p1)) 0)) n2)) then
                                  bif (true && decide ((0 : Int) ≤ (0 : Int)) && decide ((0 : Int) < ((PV.rN (PV.fld (List.getD (hrowOf h75 (PV.rI (PV.fld (hvarOf h75 (PV.rI p1)) 0))) (n2).toNat PV.nil) 1)) : Int))) then
                                    bif (true && true && (hokR h75 3 (PV.rI (PV.fld (List.getD (hrowOf h75 (PV.rI (PV.fld (hvarOf h75 (PV.rI p1)) 0))) (n2).toNat PV.nil) 1)) (0 : Int))) then
                                      let n135 : Int := (PV.num (List.getD (hrowOf h75 (PV.rI (PV.fld (List.getD (hrowOf h75 (PV.rI (PV.fld (hvarOf h75 (PV.rI p1)) 0))) (n2).toNat PV.nil) 1))) ((0 : Int)).toNat PV.nil))
                                      c74 p1 n135 n3 h75 fun p136 h137 =>
                                      c98 (PV.rp (List.length h4)) p136 h137 fun h138 =>
                                      bif (PV.isRp p1) then
                                        bif (true && true && (hokV h138 116 (PV.rI p1))) then
                                          bif (true && decide ((0 : Int) ≤ n2) && decide (n2 < ((PV.rN (PV.fld (hvarOf h138 (PV.rI p1)) 2)) : Int))) then
                                            bif (true && true && (hokR h138 149 (PV.rI (PV.fld (hvarOf h138 (PV.rI p1)) 2)) n2)) then
                                              bif (true && decide ((0 : Int) ≤ n3) && decide (n3 < ((PV.rN (List.getD (hrowOf h138 (PV.rI (PV.fld (hvarOf h138 (PV.rI p1)) 2))) (n2).toNat PV.nil)) : Int))) then
                                                bif (true && (hokR h138 118 (PV.rI (List.getD (hrowOf h138 (PV.rI (PV.fld (hvarOf h138 (PV.rI p1)) 2))) (n2).toNat PV.nil)) n3)) then
                                                  let h139 : List HE := (List.set h138 (PV.rI (List.getD (hrowOf h138 (PV.rI (PV.fld (hvarOf h138 (PV.rI p1)) 2))) (n2).toNat PV.nil)) (HE.row 118 (List.set (hrowOf h138 (PV.rI (List.getD (hrowOf h138 (PV.rI (PV.fld (hvarOf h138 (PV.rI p1)) 2))) (n2).toNat PV.nil))) (n3).toNat (PV.rp (List.length h4)))))
                                                  ret0 (PV.rp (List.length h4)) h139
                                                else none
                                              else none
                                            else none
                                          else none
                                        else none
                                      else none
                                    else none
                                  else none
                                else none
                              else bif (PV.isRp p1) then
                                bif (true && true && (hokV h75 116 (PV.rI p1))) then
                                  bif (true && decide ((0 : Int) ≤ n2) && decide (n2 < ((PV.rN (PV.fld (hvarOf h75 (PV.rI p1)) 2)) : Int))) then
                                    bif (true && true && (hokR h75 149 (PV.rI (PV.fld (hvarOf h75 (PV.rI p1)) 2)) n2)) then
                                      bif (true && decide ((0 : Int) ≤ n3) && decide (n3 < ((PV.rN (List.getD (hrowOf h75 (PV.rI (PV.fld (hvarOf h75 (PV.rI p1)) 2))) (n2).toNat PV.nil)) : Int))) then
                                        bif (true && (hokR h75 118 (PV.rI (List.getD (hrowOf h75 (PV.rI (PV.fld (hvarOf h75 (PV.rI p1)) 2))) (n2).toNat PV.nil)) n3)) then
                                          let h140 : List HE := (List.set h75 (PV.rI (List.getD (hrowOf h75 (PV.rI (PV.fld (hvarOf h75 (PV.rI p1)) 2))) (n2).toNat PV.nil)) (HE.row 118 (List.set (hrowOf h75 (PV.rI (List.getD (hrowOf h75 (PV.rI (PV.fld (hvarOf h75 (PV.rI p1)) 2))) (n2).toNat PV.nil))) (n3).toNat (PV.rp (List.length h4)))))
                                          ret0 (PV.rp (List.length h4)) h140
                                        else none
                                      else none
                                    else none
                                  else none
                                else none
                              else none
                            else none
                          else none
                        else none
                      else none
                    else none
                  else none
                else none
              else none
            else none
          else none
        else none
      else none
    else none
  else none

theorem f74_e_mem (k : Nat) (c74 : PV → Int → Int → (List HE) → (PV → (List HE) → R) → R) (c75 : PV → Int → (List HE) → (Bool → (List HE) → R) → R) (c96 : PV → Int → (List HE) → ((List HE) → R) → R) (c97 : PV → Int → (Bool → R) → R) (c98 : PV → PV → (List HE) → ((List HE) → R) → R) (retF : PV × (List HE) → R) (p1 : PV) (n2 : Int) (n3 : Int) (h4 : List HE) : exec (f74_E k c74 c75 c96 c97 c98) f74_code (endK (f74_E k c74 c75 c96 c97 c98) Try.f74 [1000000000000] f74_un retF) ⟨[.hval 87 p1, .int .i64 n2, .int .i64 n3, .undef, .undef, .undef, .undef, .undef, .undef, .undef, .undef, .undef, .undef, .undef, .undef, .undef, .undef, .undef, .undef, .undef, .undef, .undef, .undef, .undef, .undef, .undef, .undef, .undef, .undef, .undef, .undef, .undef, .undef, .undef, .undef, .undef, .undef, .undef, .undef, .undef, .undef, .undef, .undef, .undef, .undef, .undef, .undef, .undef, .undef, .undef, .undef, .undef, .undef, .undef, .undef, .undef, .undef, .undef, .undef, .undef, .undef, .undef, .undef, .undef, .undef, .undef, .undef, .undef, .undef, .undef, .undef, .undef, .undef, .undef, .undef, .undef, .undef, .undef, .undef, .undef, .undef, .undef, .undef, .undef, .undef, .undef, .undef, .undef, .undef, .undef, .undef, .undef, .undef, .undef, .undef, .undef, .undef, .undef, .undef, .undef, .undef, .undef, .undef, .undef, .undef, .undef, .undef, .undef, .undef, .undef, .undef, .undef, .undef, .undef, .undef, .undef, .undef, .undef, .undef, .undef, .undef, .undef, .undef, .undef, .undef, .undef, .undef, .undef, .undef, .undef, .undef, .undef, .undef, .undef, .undef, .undef, .undef, .undef, .undef, .undef, .undef, .undef, .undef, .undef, .undef, .undef, .undef, .undef, .undef, .undef, .undef, .undef, .undef, .undef, .undef, .undef, .undef, .undef, .undef, .undef, .undef, .undef, .undef, .undef, .undef, .undef, .undef, .undef, .undef, .undef, .undef, .undef, .undef, .undef, .undef, .undef, .undef, .undef, .undef, .undef, .undef, .undef, .undef, .undef, .undef, .undef, .undef, .undef, .undef, .undef, .undef, .undef, .undef, .undef, .undef, .undef, .undef, .undef, .undef, .undef, .undef, .undef, .undef, .undef, .undef, .undef], [(1000000000000, .hp h4)]⟩ = f74_e c74 c75 c96 c97 c98 (fun y0 y1 => retF (y0, y1)) (fun h6 h8 p19 n28 h29 => f74_w1A k c74 c75 c96 c97 c98 retF p1 n2 n3 h6 h8 p19 n28 h29) (fun h6 h8 n54 h55 => f74_w2A k c74 c75 c96 c97 c98 retF p1 n2 n3 h6 h8 n54 h55) p1 n2 n3 h4 := by kernel_rfl

noncomputable def f74_N (k : Nat) (c74 : PV → Int → Int → (List HE) → (PV → (List HE) → R) → R) (c75 : PV → Int → (List HE) → (Bool → (List HE) → R) → R) (c96 : PV → Int → (List HE) → ((List HE) → R) → R) (c97 : PV → Int → (Bool → R) → R) (c98 : PV → PV → (List HE) → ((List HE) → R) → R) (ret0 : PV → (List HE) → R) (p1 : PV) (n2 : Int) (n3 : Int) (h4 : List HE) : R :=
  f74_e c74 c75 c96 c97 c98 ret0 (fun h6 h8 p19 n28 h29 => f74_w1N k c74 c75 c96 c97 c98 ret0 p1 n2 n3 h6 h8 p19 n28 h29) (fun h6 h8 n54 h55 => f74_w2N k c74 c75 c96 c97 c98 ret0 p1 n2 n3 h6 h8 n54 h55) p1 n2 n3 h4
theorem f74_eq (k : Nat) (c74 : PV → Int → Int → (List HE) → (PV → (List HE) → R) → R) (c75 : PV → Int → (List HE) → (Bool → (List HE) → R) → R) (c96 : PV → Int → (List HE) → ((List HE) → R) → R) (c97 : PV → Int → (Bool → R) → R) (c98 : PV → PV → (List HE) → ((List HE) → R) → R) (retF : PV × (List HE) → R) (p1 : PV) (n2 : Int) (n3 : Int) (h4 : List HE) : exec (f74_E k c74 c75 c96 c97 c98) f74_code (endK (f74_E k c74 c75 c96 c97 c98) Try.f74 [1000000000000] f74_un retF) ⟨[.hval 87 p1, .int .i64 n2, .int .i64 n3, .undef, .undef, .undef, .undef, .undef, .undef, .undef, .undef, .undef, .undef, .undef, .undef, .undef, .undef, .undef, .undef, .undef, .undef, .undef, .undef, .undef, .undef, .undef, .undef, .undef, .undef, .undef, .undef, .undef, .undef, .undef, .undef, .undef, .undef, .undef, .undef, .undef, .undef, .undef, .undef, .undef, .undef, .undef, .undef, .undef, .undef, .undef, .undef, .undef, .undef, .undef, .undef, .undef, .undef, .undef, .undef, .undef, .undef, .undef, .undef, .undef, .undef, .undef, .undef, .undef, .undef, .undef, .undef, .undef, .undef, .undef, .undef, .undef, .undef, .undef, .undef, .undef, .undef, .undef, .undef, .undef, .undef, .undef, .undef, .undef, .undef, .undef, .undef, .undef, .undef, .undef, .undef, .undef, .undef, .undef, .undef, .undef, .undef, .undef, .undef, .undef, .undef, .undef, .undef, .undef, .undef, .undef, .undef, .undef, .undef, .undef, .undef, .undef, .undef, .undef, .undef, .undef, .undef, .undef, .undef, .undef, .undef, .undef, .undef, .undef, .undef, .undef, .undef, .undef, .undef, .undef, .undef, .undef, .undef, .undef, .undef, .undef, .undef, .undef, .undef, .undef, .undef, .undef, .undef, .undef, .undef, .undef, .undef, .undef, .undef, .undef, .undef, .undef, .undef, .undef, .undef, .undef, .undef, .undef, .undef, .undef, .undef, .undef, .undef, .undef, .undef, .undef, .undef, .undef, .undef, .undef, .undef, .undef, .undef, .undef, .undef, .undef, .undef, .undef, .undef, .undef, .undef, .undef, .undef, .undef, .undef, .undef, .undef, .undef, .undef, .undef, .undef, .undef, .undef, .undef, .undef, .undef, .undef, .undef, .undef, .undef, .undef, .undef], [(1000000000000, .hp h4)]⟩ = f74_N k c74 c75 c96 c97 c98 (fun y0 y1 => retF (y0, y1)) p1 n2 n3 h4 :=
  (f74_e_mem k c74 c75 c96 c97 c98 retF p1 n2 n3 h4).trans (by rw [show (fun h6 h8 p19 n28 h29 => f74_w1A k c74 c75 c96 c97 c98 retF p1 n2 n3 h6 h8 p19 n28 h29) = (fun h6 h8 p19 n28 h29 => f74_w1N k c74 c75 c96 c97 c98 (fun y0 y1 => retF (y0, y1)) p1 n2 n3 h6 h8 p19 n28 h29) from funext fun h6 => funext fun h8 => funext fun p19 => funext fun n28 => funext fun h29 => f74_w1_eq k c74 c75 c96 c97 c98 retF p1 n2 n3 h6 h8 p19 n28 h29, show (fun h6 h8 n54 h55 => f74_w2A k c74 c75 c96 c97 c98 retF p1 n2 n3 h6 h8 n54 h55) = (fun h6 h8 n54 h55 => f74_w2N k c74 c75 c96 c97 c98 (fun y0 y1 => retF (y0, y1)) p1 n2 n3 h6 h8 n54 h55) from funext fun h6 => funext fun h8 => funext fun n54 => funext fun h55 => f74_w2_eq k c74 c75 c96 c97 c98 retF p1 n2 n3 h6 h8 n54 h55]; rfl)

noncomputable def G74 : Nat → PV → Int → Int → (List HE) → (PV → (List HE) → R) → R
  | 0, _, _, _, _, _ => none
  | k + 1, p1, n2, n3, h4, ret0 => f74_N k (G74 k) (G75 k) (G96 k) (G97 k) (G98 k) ret0 p1 n2 n3 h4
theorem S74 : ∀ k, Snd Try.prog 74 f74_I f74_O (fun x ret => G74 k x.1 x.2.1 x.2.2.1 x.2.2.2 (fun y0 y1 => ret (y0, y1)))
  | 0 => snd_none
  | k + 1 => snd_step (E := f74_E k (G74 k) (G75 k) (G96 k) (G97 k) (G98 k)) rfl laidOut noNums (orc_ok (S74 k).o f74_D_ok (orc_ok (S75 k).o f75_D_ok (orc_ok (S96 k).o f96_D_ok (orc_ok (S97 k).o f97_D_ok (orc_ok (S98 k).o f98_D_ok orc0_ok))))) (f := 74) (fn := Try.f74) (code := f74_code) Try.func74 (by kernel_rfl) (drawsOk_of laidOut (orc_ok (S74 k).o f74_D_ok (orc_ok (S75 k).o f75_D_ok (orc_ok (S96 k).o f96_D_ok (orc_ok (S97 k).o f97_D_ok (orc_ok (S98 k).o f98_D_ok orc0_ok))))) mixed (by kernel_rfl)) f74_un f74_un_ok [1000000000000] (fun _ => rfl)
      (fun x ret => f74_eq k (G74 k) (G75 k) (G96 k) (G97 k) (G98 k) ret x.1 x.2.1 x.2.2.1 x.2.2.2)

/- (*catchpole/lang.Table).Says -/
noncomputable def f52_I : PV × Int × Int × Int × (List HE) → List SV × Obs := fun x => ([.hval 87 x.1, .int .i64 x.2.1, .int .i64 x.2.2.1, .int .i64 x.2.2.2.1], [(1000000000000, .hp x.2.2.2.2)])
noncomputable def f52_D : List SV → Obs → Option (PV × Int × Int × Int × (List HE))
  | [.hval 87 p1, .int .i64 n2, .int .i64 n3, .int .i64 n4], [(1000000000000, .hp h5)] => some (p1, n2, n3, n4, h5)
  | _, _ => none
theorem f52_D_ok (args : List SV) (B : Obs) (x : PV × Int × Int × Int × (List HE)) (h : f52_D args B = some x) : f52_I x = (args, B) := by
  unfold f52_D at h
  split at h
  · injection h with h; subst h; rfl
  · cases h
noncomputable def f52_O : Bool × (List HE) → Out := (fun y => ([.bool y.1], [(1000000000000, .hp y.2)]))
noncomputable def f52_un : Out → Option (Bool × (List HE))
  | ([.bool y0], [(1000000000000, .hp y1)]) => some (y0, y1)
  | _ => none
theorem f52_un_ok (o : Out) (y : Bool × (List HE)) (h : f52_un o = some y) : o = f52_O y := by
  unfold f52_un at h
  split at h
  · injection h with h; subst h; rfl
  · cases h
noncomputable def f52_msk : Nat → Option (List Nat) := fun key =>  none
noncomputable def f52_C (c74 : PV → Int → Int → (List HE) → (PV → (List HE) → R) → R) (c75 : PV → Int → (List HE) → (Bool → (List HE) → R) → R) : Oracle := orc 74 f74_D f74_O (fun x ret => c74 x.1 x.2.1 x.2.2.1 x.2.2.2 (fun y0 y1 => ret (y0, y1))) <| orc 75 f75_D f75_O (fun x ret => c75 x.1 x.2.1 x.2.2 (fun y0 y1 => ret (y0, y1))) <| orc0
noncomputable def f52_E (k : Nat) (c74 : PV → Int → Int → (List HE) → (PV → (List HE) → R) → R) (c75 : PV → Int → (List HE) → (Bool → (List HE) → R) → R) : Env := { P := Try.prog, nilOwn := fun d => false, fldOwn := fun d i => false, ownPar := ownPars, ownRet := false, hpD := fun d => false, hpF := hpFs, hpNew := false, mask := f52_msk, fuel := k, C := f52_C c74 c75 }
noncomputable def f52_code : Code := Try.f52.body.getD .skip
noncomputable def f52_e (c74 : PV → Int → Int → (List HE) → (PV → (List HE) → R) → R) (c75 : PV → Int → (List HE) → (Bool → (List HE) → R) → R) (ret0 : Bool → (List HE) → R) (p1 : PV) (n2 : Int) (n3 : Int) (n4 : Int) (h5 : List HE) : R :=
  c74 p1 n2 n3 h5 fun p6 h7 =>
  c75 p6 n4 h7 fun b8 h9 =>
  ret0 b8 h9

theorem f52_e_mem (k : Nat) (c74 : PV → Int → Int → (List HE) → (PV → (List HE) → R) → R) (c75 : PV → Int → (List HE) → (Bool → (List HE) → R) → R) (retF : Bool × (List HE) → R) (p1 : PV) (n2 : Int) (n3 : Int) (n4 : Int) (h5 : List HE) : exec (f52_E k c74 c75) f52_code (endK (f52_E k c74 c75) Try.f52 [1000000000000] f52_un retF) ⟨[.hval 87 p1, .int .i64 n2, .int .i64 n3, .int .i64 n4, .undef, .undef, .undef, .undef, .undef, .undef, .undef, .undef, .undef, .undef, .undef], [(1000000000000, .hp h5)]⟩ = f52_e c74 c75 (fun y0 y1 => retF (y0, y1)) p1 n2 n3 n4 h5 := by kernel_rfl

noncomputable def f52_N (k : Nat) (c74 : PV → Int → Int → (List HE) → (PV → (List HE) → R) → R) (c75 : PV → Int → (List HE) → (Bool → (List HE) → R) → R) (ret0 : Bool → (List HE) → R) (p1 : PV) (n2 : Int) (n3 : Int) (n4 : Int) (h5 : List HE) : R :=
  f52_e c74 c75 ret0 p1 n2 n3 n4 h5
theorem f52_eq (k : Nat) (c74 : PV → Int → Int → (List HE) → (PV → (List HE) → R) → R) (c75 : PV → Int → (List HE) → (Bool → (List HE) → R) → R) (retF : Bool × (List HE) → R) (p1 : PV) (n2 : Int) (n3 : Int) (n4 : Int) (h5 : List HE) : exec (f52_E k c74 c75) f52_code (endK (f52_E k c74 c75) Try.f52 [1000000000000] f52_un retF) ⟨[.hval 87 p1, .int .i64 n2, .int .i64 n3, .int .i64 n4, .undef, .undef, .undef, .undef, .undef, .undef, .undef, .undef, .undef, .undef, .undef], [(1000000000000, .hp h5)]⟩ = f52_N k c74 c75 (fun y0 y1 => retF (y0, y1)) p1 n2 n3 n4 h5 :=
  (f52_e_mem k c74 c75 retF p1 n2 n3 n4 h5)

noncomputable def G52 : Nat → PV → Int → Int → Int → (List HE) → (Bool → (List HE) → R) → R
  | 0, _, _, _, _, _, _ => none
  | k + 1, p1, n2, n3, n4, h5, ret0 => f52_N k (G74 k) (G75 k) ret0 p1 n2 n3 n4 h5
theorem S52 : ∀ k, Snd Try.prog 52 f52_I f52_O (fun x ret => G52 k x.1 x.2.1 x.2.2.1 x.2.2.2.1 x.2.2.2.2 (fun y0 y1 => ret (y0, y1)))
  | 0 => snd_none
  | k + 1 => snd_step (E := f52_E k (G74 k) (G75 k)) rfl laidOut noNums (orc_ok (S74 k).o f74_D_ok (orc_ok (S75 k).o f75_D_ok orc0_ok)) (f := 52) (fn := Try.f52) (code := f52_code) Try.func52 (by kernel_rfl) (drawsOk_of laidOut (orc_ok (S74 k).o f74_D_ok (orc_ok (S75 k).o f75_D_ok orc0_ok)) mixed (by kernel_rfl)) f52_un f52_un_ok [1000000000000] (fun _ => rfl)
      (fun x ret => f52_eq k (G74 k) (G75 k) ret x.1 x.2.1 x.2.2.1 x.2.2.2.1 x.2.2.2.2)

/- (*catchpole/lang.Table).Byte -/
noncomputable def f76_I : PV × Int × (List HE) → List SV × Obs := fun x => ([.hval 87 x.1, .int .i64 x.2.1], [(1000000000000, .hp x.2.2)])
noncomputable def f76_D : List SV → Obs → Option (PV × Int × (List HE))
  | [.hval 87 p1, .int .i64 n2], [(1000000000000, .hp h3)] => some (p1, n2, h3)
  | _, _ => none
theorem f76_D_ok (args : List SV) (B : Obs) (x : PV × Int × (List HE)) (h : f76_D args B = some x) : f76_I x = (args, B) := by
  unfold f76_D at h
  split at h
  · injection h with h; subst h; rfl
  · cases h
noncomputable def f76_O : Int × (List HE) → Out := (fun y => ([.int .u8 y.1], [(1000000000000, .hp y.2)]))
noncomputable def f76_un : Out → Option (Int × (List HE))
  | ([.int .u8 y0], [(1000000000000, .hp y1)]) => some (y0, y1)
  | _ => none
theorem f76_un_ok (o : Out) (y : Int × (List HE)) (h : f76_un o = some y) : o = f76_O y := by
  unfold f76_un at h
  split at h
  · injection h with h; subst h; rfl
  · cases h
noncomputable def f76_msk : Nat → Option (List Nat) := fun key =>  none
noncomputable def f76_C : Oracle := orc0
noncomputable def f76_E (k : Nat) : Env := { P := Try.prog, nilOwn := fun d => false, fldOwn := fun d i => false, ownPar := ownPars, ownRet := false, hpD := fun d => false, hpF := hpFs, hpNew := false, mask := f76_msk, fuel := k, C := f76_C }
noncomputable def f76_code : Code := Try.f76.body.getD .skip
noncomputable def f76_e (ret0 : Int → (List HE) → R) (p1 : PV) (n2 : Int) (h3 : List HE) : R :=
  bif (PV.isRp p1) then
    bif (true && true && (hokV h3 116 (PV.rI p1))) then
      bif (true && decide ((0 : Int) ≤ n2) && decide (n2 < (List.length (PV.els (PV.fld (hvarOf h3 (PV.rI p1)) 1)) : Int))) then
        ret0 (PV.num (List.getD (PV.els (PV.fld (hvarOf h3 (PV.rI p1)) 1)) (n2).toNat PV.nil)) h3
      else none
    else none
  else none

theorem f76_e_mem (k : Nat) (retF : Int × (List HE) → R) (p1 : PV) (n2 : Int) (h3 : List HE) : exec (f76_E k) f76_code (endK (f76_E k) Try.f76 [1000000000000] f76_un retF) ⟨[.hval 87 p1, .int .i64 n2, .undef, .undef, .undef, .undef, .undef, .undef, .undef, .undef, .undef, .undef], [(1000000000000, .hp h3)]⟩ = f76_e (fun y0 y1 => retF (y0, y1)) p1 n2 h3 := by kernel_rfl

noncomputable def f76_N (k : Nat) (ret0 : Int → (List HE) → R) (p1 : PV) (n2 : Int) (h3 : List HE) : R :=
  f76_e ret0 p1 n2 h3
theorem f76_eq (k : Nat) (retF : Int × (List HE) → R) (p1 : PV) (n2 : Int) (h3 : List HE) : exec (f76_E k) f76_code (endK (f76_E k) Try.f76 [1000000000000] f76_un retF) ⟨[.hval 87 p1, .int .i64 n2, .undef, .undef, .undef, .undef, .undef, .undef, .undef, .undef, .undef, .undef], [(1000000000000, .hp h3)]⟩ = f76_N k (fun y0 y1 => retF (y0, y1)) p1 n2 h3 :=
  (f76_e_mem k retF p1 n2 h3)

noncomputable def G76 : Nat → PV → Int → (List HE) → (Int → (List HE) → R) → R
  | 0, _, _, _, _ => none
  | k + 1, p1, n2, h3, ret0 => f76_N k  ret0 p1 n2 h3
theorem S76 : ∀ k, Snd Try.prog 76 f76_I f76_O (fun x ret => G76 k x.1 x.2.1 x.2.2 (fun y0 y1 => ret (y0, y1)))
  | 0 => snd_none
  | k + 1 => snd_step (E := f76_E k ) rfl laidOut noNums orc0_ok (f := 76) (fn := Try.f76) (code := f76_code) Try.func76 (by kernel_rfl) (drawsOk_of laidOut orc0_ok mixed (by kernel_rfl)) f76_un f76_un_ok [1000000000000] (fun _ => rfl)
      (fun x ret => f76_eq k  ret x.1 x.2.1 x.2.2)

/- (*catchpole/span.Spans).split -/
noncomputable def f77_I : PV × Int × Int × Int × Int × Int × (List HE) → List SV × Obs := fun x => ([.hval 32 x.1, .int .i64 x.2.1, .int .i64 x.2.2.1, .int .i64 x.2.2.2.1, .int .i64 x.2.2.2.2.1, .int .i64 x.2.2.2.2.2.1], [(1000000000000, .hp x.2.2.2.2.2.2)])
noncomputable def f77_D : List SV → Obs → Option (PV × Int × Int × Int × Int × Int × (List HE))
  | [.hval 32 p1, .int .i64 n2, .int .i64 n3, .int .i64 n4, .int .i64 n5, .int .i64 n6], [(1000000000000, .hp h7)] => some (p1, n2, n3, n4, n5, n6, h7)
  | _, _ => none
theorem f77_D_ok (args : List SV) (B : Obs) (x : PV × Int × Int × Int × Int × Int × (List HE)) (h : f77_D args B = some x) : f77_I x = (args, B) := by
  unfold f77_D at h
  split at h
  · injection h with h; subst h; rfl
  · cases h
noncomputable def f77_O : Int × (List HE) → Out := (fun y => ([.int .i64 y.1], [(1000000000000, .hp y.2)]))
noncomputable def f77_un : Out → Option (Int × (List HE))
  | ([.int .i64 y0], [(1000000000000, .hp y1)]) => some (y0, y1)
  | _ => none
theorem f77_un_ok (o : Out) (y : Int × (List HE)) (h : f77_un o = some y) : o = f77_O y := by
  unfold f77_un at h
  split at h
  · injection h with h; subst h; rfl
  · cases h
noncomputable def f77_msk : Nat → Option (List Nat) := fun key => bif key == 6 then some [0, 1, 2, 3, 4, 5, 13] else none
noncomputable def f77_C (c52 : PV → Int → Int → Int → (List HE) → (Bool → (List HE) → R) → R) : Oracle := orc 52 f52_D f52_O (fun x ret => c52 x.1 x.2.1 x.2.2.1 x.2.2.2.1 x.2.2.2.2 (fun y0 y1 => ret (y0, y1))) <| orc0
noncomputable def f77_E (k : Nat) (c52 : PV → Int → Int → Int → (List HE) → (Bool → (List HE) → R) → R) : Env := { P := Try.prog, nilOwn := fun d => false, fldOwn := fun d i => false, ownPar := ownPars, ownRet := false, hpD := fun d => false, hpF := hpFs, hpNew := false, mask := f77_msk, fuel := k, C := f77_C c52 }
noncomputable def f77_code : Code := Try.f77.body.getD .skip
noncomputable def f77_cw1 : Code := subC f77_code [1, 0, 1, 0, 0]
noncomputable def f77_hw1_0 (p1 : PV) (n2 : Int) (n3 : Int) (n4 : Int) (n5 : Int) (n6 : Int) (n12 : Int) (h13 : List HE) : St := ⟨[.hval 32 p1, .int .i64 n2, .int .i64 n3, .int .i64 n4, .int .i64 n5, .int .i64 n6, .dead, .dead, .dead, .dead, .dead, .dead, .dead, .int .i64 n12, .dead, .dead, .dead, .dead, .dead, .dead, .dead, .dead, .dead, .dead, .dead, .dead, .dead, .dead, .dead, .dead, .dead, .dead, .dead, .dead, .dead, .dead, .dead, .dead, .dead], [(1000000000000, .hp h13)]⟩
noncomputable def f77_w1A (k : Nat) (c52 : PV → Int → Int → Int → (List HE) → (Bool → (List HE) → R) → R) (retF : Int × (List HE) → R) (p1 : PV) (n2 : Int) (n3 : Int) (n4 : Int) (n5 : Int) (n6 : Int) (n12 : Int) (h13 : List HE) : R := loopM (f77_E k c52) f77_cw1 (kont (f77_E k c52) f77_code [1, 0, 1, 0] (endK (f77_E k c52) Try.f77 [1000000000000] f77_un retF)) k (f77_hw1_0 p1 n2 n3 n4 n5 n6 n12 h13)
noncomputable def f77_w1b0 (c52 : PV → Int → Int → Int → (List HE) → (Bool → (List HE) → R) → R) (ret0 : Int → (List HE) → R) (next_w1_0 : Int → (List HE) → R) (p1 : PV) (n2 : Int) (n3 : Int) (n4 : Int) (n5 : Int) (n6 : Int) (n12 : Int) (h13 : List HE) : R :=
  bif (decide (n5 ≤ n12)) then
    bif (PV.isRp p1) then
      bif (true && true && (hokV h13 90 (PV.rI p1))) then
        c52 (PV.fld (hvarOf h13 (PV.rI p1)) 0) n2 n4 n12 h13 fun b14 h15 =>
        bif (b14 == true) then
          bif (PV.isRp p1) then
            bif (true && true && (hokV h15 90 (PV.rI p1))) then
              c52 (PV.fld (hvarOf h15 (PV.rI p1)) 0) n3 n12 n6 h15 fun b16 h17 =>
              bif b16 then
                ret0 n12 h17
              else next_w1_0 (IntKind.wrap .i64 (n12 - (1 : Int))) h17
            else none
          else none
        else next_w1_0 (IntKind.wrap .i64 (n12 - (1 : Int))) h15
      else none
    else none
  else ret0 (-1) h13

theorem f77_w1b0_mem (k : Nat) (c52 : PV → Int → Int → Int → (List HE) → (Bool → (List HE) → R) → R) (retF : Int × (List HE) → R) (NX_w1 : St → R) (p1 : PV) (n2 : Int) (n3 : Int) (n4 : Int) (n5 : Int) (n6 : Int) (n12 : Int) (h13 : List HE) : exec (f77_E k c52) f77_cw1 (purgeK (f77_E k c52) f77_cw1 (loopK NX_w1 (kont (f77_E k c52) f77_code [1, 0, 1, 0] (endK (f77_E k c52) Try.f77 [1000000000000] f77_un retF)))) (f77_hw1_0 p1 n2 n3 n4 n5 n6 n12 h13) = f77_w1b0 c52 (fun y0 y1 => retF (y0, y1)) (fun n12 h13 => NX_w1 (f77_hw1_0 p1 n2 n3 n4 n5 n6 n12 h13)) p1 n2 n3 n4 n5 n6 n12 h13 := by kernel_rfl

noncomputable def f77_w1b0N (k : Nat) (c52 : PV → Int → Int → Int → (List HE) → (Bool → (List HE) → R) → R) (ret0 : Int → (List HE) → R) (next_w1_0 : Int → (List HE) → R) (p1 : PV) (n2 : Int) (n3 : Int) (n4 : Int) (n5 : Int) (n6 : Int) (n12 : Int) (h13 : List HE) : R :=
  f77_w1b0 c52 ret0 next_w1_0 p1 n2 n3 n4 n5 n6 n12 h13
theorem f77_w1b0_eq (k : Nat) (c52 : PV → Int → Int → Int → (List HE) → (Bool → (List HE) → R) → R) (retF : Int × (List HE) → R) (NX_w1 : St → R) (p1 : PV) (n2 : Int) (n3 : Int) (n4 : Int) (n5 : Int) (n6 : Int) (n12 : Int) (h13 : List HE) : exec (f77_E k c52) f77_cw1 (purgeK (f77_E k c52) f77_cw1 (loopK NX_w1 (kont (f77_E k c52) f77_code [1, 0, 1, 0] (endK (f77_E k c52) Try.f77 [1000000000000] f77_un retF)))) (f77_hw1_0 p1 n2 n3 n4 n5 n6 n12 h13) = f77_w1b0N k c52 (fun y0 y1 => retF (y0, y1)) (fun n12 h13 => NX_w1 (f77_hw1_0 p1 n2 n3 n4 n5 n6 n12 h13)) p1 n2 n3 n4 n5 n6 n12 h13 :=
  (f77_w1b0_mem k c52 retF NX_w1 p1 n2 n3 n4 n5 n6 n12 h13)

noncomputable def f77_w1B (k : Nat) (c52 : PV → Int → Int → Int → (List HE) → (Bool → (List HE) → R) → R) (ret0 : Int → (List HE) → R) (p1 : PV) (n2 : Int) (n3 : Int) (n4 : Int) (n5 : Int) (n6 : Int) (nx : Int × (List HE) → R) : Int × (List HE) → R := (fun s => f77_w1b0N k c52 ret0 (fun n12 h13 => nx (n12, h13)) p1 n2 n3 n4 n5 n6 s.1 s.2)
noncomputable def f77_w1N (k : Nat) (c52 : PV → Int → Int → Int → (List HE) → (Bool → (List HE) → R) → R) (ret0 : Int → (List HE) → R) (p1 : PV) (n2 : Int) (n3 : Int) (n4 : Int) (n5 : Int) (n6 : Int) (n12 : Int) (h13 : List HE) : R := loopR (f77_w1B k c52 ret0 p1 n2 n3 n4 n5 n6) k (n12, h13)
theorem f77_w1_eq (k : Nat) (c52 : PV → Int → Int → Int → (List HE) → (Bool → (List HE) → R) → R) (retF : Int × (List HE) → R) (p1 : PV) (n2 : Int) (n3 : Int) (n4 : Int) (n5 : Int) (n6 : Int) (n12 : Int) (h13 : List HE) : f77_w1A k c52 retF p1 n2 n3 n4 n5 n6 n12 h13 = f77_w1N k c52 (fun y0 y1 => retF (y0, y1)) p1 n2 n3 n4 n5 n6 n12 h13 :=
  Eq.mp (by kernel_rfl) (loop_sim (E := (f77_E k c52)) (c := f77_cw1) (K := (kont (f77_E k c52) f77_code [1, 0, 1, 0] (endK (f77_E k c52) Try.f77 [1000000000000] f77_un retF))) (S := Int × (List HE)) (fun s => f77_hw1_0 p1 n2 n3 n4 n5 n6 s.1 s.2) (f77_w1B k c52 (fun y0 y1 => retF (y0, y1)) p1 n2 n3 n4 n5 n6) (fun NX s => by
    exact Eq.mp (by kernel_rfl) (f77_w1b0_eq k c52 retF NX p1 n2 n3 n4 n5 n6 s.1 s.2)) k (n12, h13))

noncomputable def f77_e (c52 : PV → Int → Int → Int → (List HE) → (Bool → (List HE) → R) → R) (ret0 : Int → (List HE) → R) (w1 : Int → (List HE) → R) (p1 : PV) (n2 : Int) (n3 : Int) (n4 : Int) (n5 : Int) (n6 : Int) (h7 : List HE) : R :=
  w1 n6 h7

theorem f77_e_mem (k : Nat) (c52 : PV → Int → Int → Int → (List HE) → (Bool → (List HE) → R) → R) (retF : Int × (List HE) → R) (p1 : PV) (n2 : Int) (n3 : Int) (n4 : Int) (n5 : Int) (n6 : Int) (h7 : List HE) : exec (f77_E k c52) f77_code (endK (f77_E k c52) Try.f77 [1000000000000] f77_un retF) ⟨[.hval 32 p1, .int .i64 n2, .int .i64 n3, .int .i64 n4, .int .i64 n5, .int .i64 n6, .undef, .undef, .undef, .undef, .undef, .undef, .undef, .undef, .undef, .undef, .undef, .undef, .undef, .undef, .undef, .undef, .undef, .undef, .undef, .undef, .undef, .undef, .undef, .undef, .undef, .undef, .undef, .undef, .undef, .undef, .undef, .undef, .undef], [(1000000000000, .hp h7)]⟩ = f77_e c52 (fun y0 y1 => retF (y0, y1)) (fun n12 h13 => f77_w1A k c52 retF p1 n2 n3 n4 n5 n6 n12 h13) p1 n2 n3 n4 n5 n6 h7 := by kernel_rfl

noncomputable def f77_N (k : Nat) (c52 : PV → Int → Int → Int → (List HE) → (Bool → (List HE) → R) → R) (ret0 : Int → (List HE) → R) (p1 : PV) (n2 : Int) (n3 : Int) (n4 : Int) (n5 : Int) (n6 : Int) (h7 : List HE) : R :=
  f77_e c52 ret0 (fun n12 h13 => f77_w1N k c52 ret0 p1 n2 n3 n4 n5 n6 n12 h13) p1 n2 n3 n4 n5 n6 h7
theorem f77_eq (k : Nat) (c52 : PV → Int → Int → Int → (List HE) → (Bool → (List HE) → R) → R) (retF : Int × (List HE) → R) (p1 : PV) (n2 : Int) (n3 : Int) (n4 : Int) (n5 : Int) (n6 : Int) (h7 : List HE) : exec (f77_E k c52) f77_code (endK (f77_E k c52) Try.f77 [1000000000000] f77_un retF) ⟨[.hval 32 p1, .int .i64 n2, .int .i64 n3, .int .i64 n4, .int .i64 n5, .int .i64 n6, .undef, .undef, .undef, .undef, .undef, .undef, .undef, .undef, .undef, .undef, .undef, .undef, .undef, .undef, .undef, .undef, .undef, .undef, .undef, .undef, .undef, .undef, .undef, .undef, .undef, .undef, .undef, .undef, .undef, .undef, .undef, .undef, .undef], [(1000000000000, .hp h7)]⟩ = f77_N k c52 (fun y0 y1 => retF (y0, y1)) p1 n2 n3 n4 n5 n6 h7 :=
  (f77_e_mem k c52 retF p1 n2 n3 n4 n5 n6 h7).trans (by rw [show (fun n12 h13 => f77_w1A k c52 retF p1 n2 n3 n4 n5 n6 n12 h13) = (fun n12 h13 => f77_w1N k c52 (fun y0 y1 => retF (y0, y1)) p1 n2 n3 n4 n5 n6 n12 h13) from funext fun n12 => funext fun h13 => f77_w1_eq k c52 retF p1 n2 n3 n4 n5 n6 n12 h13]; rfl)

noncomputable def G77 : Nat → PV → Int → Int → Int → Int → Int → (List HE) → (Int → (List HE) → R) → R
  | 0, _, _, _, _, _, _, _, _ => none
  | k + 1, p1, n2, n3, n4, n5, n6, h7, ret0 => f77_N k (G52 k) ret0 p1 n2 n3 n4 n5 n6 h7
theorem S77 : ∀ k, Snd Try.prog 77 f77_I f77_O (fun x ret => G77 k x.1 x.2.1 x.2.2.1 x.2.2.2.1 x.2.2.2.2.1 x.2.2.2.2.2.1 x.2.2.2.2.2.2 (fun y0 y1 => ret (y0, y1)))
  | 0 => snd_none
  | k + 1 => snd_step (E := f77_E k (G52 k)) rfl laidOut noNums (orc_ok (S52 k).o f52_D_ok orc0_ok) (f := 77) (fn := Try.f77) (code := f77_code) Try.func77 (by kernel_rfl) (drawsOk_of laidOut (orc_ok (S52 k).o f52_D_ok orc0_ok) mixed (by kernel_rfl)) f77_un f77_un_ok [1000000000000] (fun _ => rfl)
      (fun x ret => f77_eq k (G52 k) ret x.1 x.2.1 x.2.2.1 x.2.2.2.1 x.2.2.2.2.1 x.2.2.2.2.2.1 x.2.2.2.2.2.2)

/- (*catchpole/span.Spans).of -/
noncomputable def f78_I : PV × Int × Int × Int × Int × (List HE) → List SV × Obs := fun x => ([.hval 32 x.1, .int .i64 x.2.1, .int .i64 x.2.2.1, .int .i64 x.2.2.2.1, .int .i64 x.2.2.2.2.1], [(1000000000000, .hp x.2.2.2.2.2)])
noncomputable def f78_D : List SV → Obs → Option (PV × Int × Int × Int × Int × (List HE))
  | [.hval 32 p1, .int .i64 n2, .int .i64 n3, .int .i64 n4, .int .i64 n5], [(1000000000000, .hp h6)] => some (p1, n2, n3, n4, n5, h6)
  | _, _ => none
theorem f78_D_ok (args : List SV) (B : Obs) (x : PV × Int × Int × Int × Int × (List HE)) (h : f78_D args B = some x) : f78_I x = (args, B) := by
  unfold f78_D at h
  split at h
  · injection h with h; subst h; rfl
  · cases h
noncomputable def f78_O : PV × (List HE) → Out := (fun y => ([.val 39 y.1], [(1000000000000, .hp y.2)]))
noncomputable def f78_un : Out → Option (PV × (List HE))
  | ([.val 39 y0], [(1000000000000, .hp y1)]) => some (y0, y1)
  | _ => none
theorem f78_un_ok (o : Out) (y : PV × (List HE)) (h : f78_un o = some y) : o = f78_O y := by
  unfold f78_un at h
  split at h
  · injection h with h; subst h; rfl
  · cases h
/- (*catchpole/span.Spans).best -/
noncomputable def f53_I : PV × Int × Int × Int × (List HE) → List SV × Obs := fun x => ([.hval 32 x.1, .int .i64 x.2.1, .int .i64 x.2.2.1, .int .i64 x.2.2.2.1], [(1000000000000, .hp x.2.2.2.2)])
noncomputable def f53_D : List SV → Obs → Option (PV × Int × Int × Int × (List HE))
  | [.hval 32 p1, .int .i64 n2, .int .i64 n3, .int .i64 n4], [(1000000000000, .hp h5)] => some (p1, n2, n3, n4, h5)
  | _, _ => none
theorem f53_D_ok (args : List SV) (B : Obs) (x : PV × Int × Int × Int × (List HE)) (h : f53_D args B = some x) : f53_I x = (args, B) := by
  unfold f53_D at h
  split at h
  · injection h with h; subst h; rfl
  · cases h
noncomputable def f53_O : PV × (List HE) → Out := (fun y => ([.val 39 y.1], [(1000000000000, .hp y.2)]))
noncomputable def f53_un : Out → Option (PV × (List HE))
  | ([.val 39 y0], [(1000000000000, .hp y1)]) => some (y0, y1)
  | _ => none
theorem f53_un_ok (o : Out) (y : PV × (List HE)) (h : f53_un o = some y) : o = f53_O y := by
  unfold f53_un at h
  split at h
  · injection h with h; subst h; rfl
  · cases h
noncomputable def f78_msk : Nat → Option (List Nat) := fun key =>  none
noncomputable def f78_C (c53 : PV → Int → Int → Int → (List HE) → (PV → (List HE) → R) → R) : Oracle := orc 53 f53_D f53_O (fun x ret => c53 x.1 x.2.1 x.2.2.1 x.2.2.2.1 x.2.2.2.2 (fun y0 y1 => ret (y0, y1))) <| orc0
noncomputable def f78_E (k : Nat) (c53 : PV → Int → Int → Int → (List HE) → (PV → (List HE) → R) → R) : Env := { P := Try.prog, nilOwn := fun d => false, fldOwn := fun d i => false, ownPar := ownPars, ownRet := false, hpD := fun d => false, hpF := hpFs, hpNew := false, mask := f78_msk, fuel := k, C := f78_C c53 }
noncomputable def f78_code : Code := Try.f78.body.getD .skip
noncomputable def f78_e (c53 : PV → Int → Int → Int → (List HE) → (PV → (List HE) → R) → R) (ret0 : PV → (List HE) → R) (p1 : PV) (n2 : Int) (n3 : Int) (n4 : Int) (n5 : Int) (h6 : List HE) : R :=
  c53 p1 n3 n4 n5 h6 fun p7 h8 =>
  ret0 (PV.agg [(PV.int n2), (PV.int 0), (PV.list [p7])]) h8

theorem f78_e_mem (k : Nat) (c53 : PV → Int → Int → Int → (List HE) → (PV → (List HE) → R) → R) (retF : PV × (List HE) → R) (p1 : PV) (n2 : Int) (n3 : Int) (n4 : Int) (n5 : Int) (h6 : List HE) : exec (f78_E k c53) f78_code (endK (f78_E k c53) Try.f78 [1000000000000] f78_un retF) ⟨[.hval 32 p1, .int .i64 n2, .int .i64 n3, .int .i64 n4, .int .i64 n5, .undef, .undef, .undef, .undef, .undef, .undef, .undef, .undef, .undef, .undef, .undef, .undef, .undef, .undef], [(1000000000000, .hp h6)]⟩ = f78_e c53 (fun y0 y1 => retF (y0, y1)) p1 n2 n3 n4 n5 h6 := by kernel_rfl

noncomputable def f78_N (k : Nat) (c53 : PV → Int → Int → Int → (List HE) → (PV → (List HE) → R) → R) (ret0 : PV → (List HE) → R) (p1 : PV) (n2 : Int) (n3 : Int) (n4 : Int) (n5 : Int) (h6 : List HE) : R :=
  f78_e c53 ret0 p1 n2 n3 n4 n5 h6
theorem f78_eq (k : Nat) (c53 : PV → Int → Int → Int → (List HE) → (PV → (List HE) → R) → R) (retF : PV × (List HE) → R) (p1 : PV) (n2 : Int) (n3 : Int) (n4 : Int) (n5 : Int) (h6 : List HE) : exec (f78_E k c53) f78_code (endK (f78_E k c53) Try.f78 [1000000000000] f78_un retF) ⟨[.hval 32 p1, .int .i64 n2, .int .i64 n3, .int .i64 n4, .int .i64 n5, .undef, .undef, .undef, .undef, .undef, .undef, .undef, .undef, .undef, .undef, .undef, .undef, .undef, .undef], [(1000000000000, .hp h6)]⟩ = f78_N k c53 (fun y0 y1 => retF (y0, y1)) p1 n2 n3 n4 n5 h6 :=
  (f78_e_mem k c53 retF p1 n2 n3 n4 n5 h6)

noncomputable def f53_msk : Nat → Option (List Nat) := fun key => bif key == 42 then some [0, 1, 2, 3, 8, 9, 11] else none
noncomputable def f53_C (c52 : PV → Int → Int → Int → (List HE) → (Bool → (List HE) → R) → R) (c53 : PV → Int → Int → Int → (List HE) → (PV → (List HE) → R) → R) (c76 : PV → Int → (List HE) → (Int → (List HE) → R) → R) (c77 : PV → Int → Int → Int → Int → Int → (List HE) → (Int → (List HE) → R) → R) (c78 : PV → Int → Int → Int → Int → (List HE) → (PV → (List HE) → R) → R) : Oracle := orc 52 f52_D f52_O (fun x ret => c52 x.1 x.2.1 x.2.2.1 x.2.2.2.1 x.2.2.2.2 (fun y0 y1 => ret (y0, y1))) <| orc 53 f53_D f53_O (fun x ret => c53 x.1 x.2.1 x.2.2.1 x.2.2.2.1 x.2.2.2.2 (fun y0 y1 => ret (y0, y1))) <| orc 76 f76_D f76_O (fun x ret => c76 x.1 x.2.1 x.2.2 (fun y0 y1 => ret (y0, y1))) <| orc 77 f77_D f77_O (fun x ret => c77 x.1 x.2.1 x.2.2.1 x.2.2.2.1 x.2.2.2.2.1 x.2.2.2.2.2.1 x.2.2.2.2.2.2 (fun y0 y1 => ret (y0, y1))) <| orc 78 f78_D f78_O (fun x ret => c78 x.1 x.2.1 x.2.2.1 x.2.2.2.1 x.2.2.2.2.1 x.2.2.2.2.2 (fun y0 y1 => ret (y0, y1))) <| orc0
noncomputable def f53_E (k : Nat) (c52 : PV → Int → Int → Int → (List HE) → (Bool → (List HE) → R) → R) (c53 : PV → Int → Int → Int → (List HE) → (PV → (List HE) → R) → R) (c76 : PV → Int → (List HE) → (Int → (List HE) → R) → R) (c77 : PV → Int → Int → Int → Int → Int → (List HE) → (Int → (List HE) → R) → R) (c78 : PV → Int → Int → Int → Int → (List HE) → (PV → (List HE) → R) → R) : Env := { P := Try.prog, nilOwn := fun d => false, fldOwn := fun d i => (d == 99 && i == 2), ownPar := ownPars, ownRet := false, hpD := fun d => false, hpF := hpFs, hpNew := false, mask := f53_msk, fuel := k, C := f53_C c52 c53 c76 c77 c78 }
noncomputable def f53_code : Code := Try.f53.body.getD .skip
noncomputable def f53_cw1 : Code := subC f53_code [1, 1, 0, 1, 0, 1, 1, 1, 1, 1, 1, 1, 0, 1, 0, 0, 0]
noncomputable def f53_hw1_0 (p1 : PV) (n2 : Int) (n3 : Int) (n4 : Int) (h5 : List HE) (p6 : PV) : St := ⟨[.hval 32 p1, .int .i64 n2, .int .i64 n3, .int .i64 n4, .dead, .dead, .dead, .dead, .ptr 8 [], .ptr 9 [], .dead, .ptr 11 [], .dead, .dead, .dead, .dead, .dead, .dead, .dead, .dead, .dead, .dead, .dead, .dead, .dead, .dead, .dead, .dead, .dead, .dead, .dead, .dead, .dead, .dead, .dead, .dead, .dead, .dead, .dead, .dead, .dead, .dead, .dead, .dead, .dead, .dead, .dead, .dead, .dead, .dead, .dead, .dead, .dead, .dead, .dead, .dead, .dead, .dead, .dead, .dead, .dead, .dead, .dead, .dead, .dead, .dead, .dead, .dead, .dead, .dead, .dead, .dead, .dead, .dead, .dead, .dead, .dead, .dead, .dead, .dead, .dead, .dead, .dead, .dead, .dead, .dead, .dead, .dead, .dead, .dead, .dead, .dead, .dead, .dead, .dead, .dead, .dead, .dead, .dead, .dead, .dead, .dead, .dead, .dead, .dead, .dead, .dead, .dead, .dead, .dead, .dead, .dead, .dead, .dead, .dead, .dead, .dead, .dead, .dead, .dead, .dead, .dead, .dead, .dead, .dead, .dead, .dead, .dead, .dead, .dead, .dead, .dead, .dead, .dead, .dead, .dead, .dead, .dead, .dead, .dead, .dead, .dead, .dead, .dead, .dead, .dead, .dead, .dead, .dead, .dead], [(8, .box 39 (.val 39 (PV.agg [(PV.int 0), (PV.int 0), (PV.list [])]))), (9, .box 122 (.hval 122 p6)), (11, .box 39 (.agg 39 [.int .i64 6, .int .u8 0, .nils])), (1000000000000, .hp h5)]⟩
noncomputable def f53_hw1_1 (p1 : PV) (n2 : Int) (n4 : Int) (p6 : PV) (n29 : Int) (l30 : List PV) (h31 : List HE) : St := ⟨[.hval 32 p1, .int .i64 n2, .int .i64 n29, .int .i64 n4, .dead, .dead, .dead, .dead, .ptr 8 [], .ptr 9 [], .dead, .ptr 11 [], .dead, .dead, .dead, .dead, .dead, .dead, .dead, .dead, .dead, .dead, .dead, .dead, .dead, .dead, .dead, .dead, .dead, .dead, .dead, .dead, .dead, .dead, .dead, .dead, .dead, .dead, .dead, .dead, .dead, .dead, .dead, .dead, .dead, .dead, .dead, .dead, .dead, .dead, .dead, .dead, .dead, .dead, .dead, .dead, .dead, .dead, .dead, .dead, .dead, .dead, .dead, .dead, .dead, .dead, .dead, .dead, .dead, .dead, .dead, .dead, .dead, .dead, .dead, .dead, .dead, .dead, .dead, .dead, .dead, .dead, .dead, .dead, .dead, .dead, .dead, .dead, .dead, .dead, .dead, .dead, .dead, .dead, .dead, .dead, .dead, .dead, .dead, .dead, .dead, .dead, .dead, .dead, .dead, .dead, .dead, .dead, .dead, .dead, .dead, .dead, .dead, .dead, .dead, .dead, .dead, .dead, .dead, .dead, .dead, .dead, .dead, .dead, .dead, .dead, .dead, .dead, .dead, .dead, .dead, .dead, .dead, .dead, .dead, .dead, .dead, .dead, .dead, .dead, .dead, .dead, .dead, .dead, .dead, .dead, .dead, .dead, .dead, .dead], [(8, .box 39 (.val 39 (PV.agg [(PV.int 0), (PV.int 0), (PV.list [])]))), (9, .box 122 (.hval 122 p6)), (11, .box 39 (.agg 39 [.int .i64 6, .int .u8 0, .own 37 125])), (125, .row 39 l30), (1000000000000, .hp h31)]⟩
noncomputable def f53_w1A (k : Nat) (c52 : PV → Int → Int → Int → (List HE) → (Bool → (List HE) → R) → R) (c53 : PV → Int → Int → Int → (List HE) → (PV → (List HE) → R) → R) (c76 : PV → Int → (List HE) → (Int → (List HE) → R) → R) (c77 : PV → Int → Int → Int → Int → Int → (List HE) → (Int → (List HE) → R) → R) (c78 : PV → Int → Int → Int → Int → (List HE) → (PV → (List HE) → R) → R) (retF : PV × (List HE) → R) (p1 : PV) (n2 : Int) (n3 : Int) (n4 : Int) (h5 : List HE) (p6 : PV) : R := loopM (f53_E k c52 c53 c76 c77 c78) f53_cw1 (kont (f53_E k c52 c53 c76 c77 c78) f53_code [1, 1, 0, 1, 0, 1, 1, 1, 1, 1, 1, 1, 0, 1, 0, 0] (endK (f53_E k c52 c53 c76 c77 c78) Try.f53 [1000000000000] f53_un retF)) k (f53_hw1_0 p1 n2 n3 n4 h5 p6)
noncomputable def f53_w1b0 (c52 : PV → Int → Int → Int → (List HE) → (Bool → (List HE) → R) → R) (c53 : PV → Int → Int → Int → (List HE) → (PV → (List HE) → R) → R) (c76 : PV → Int → (List HE) → (Int → (List HE) → R) → R) (c77 : PV → Int → Int → Int → Int → Int → (List HE) → (Int → (List HE) → R) → R) (c78 : PV → Int → Int → Int → Int → (List HE) → (PV → (List HE) → R) → R) (ret0 : PV → (List HE) → R) (next_w1_0 : Unit → R) (next_w1_1 : Int → (List PV) → (List HE) → R) (p1 : PV) (n2 : Int) (n3 : Int) (n4 : Int) (h5 : List HE) (p6 : PV) : R :=
  bif (decide (n3 < n4)) then
    bif (true && decide ((0 : Int) ≤ (0 : Int)) && decide ((0 : Int) < ((PV.rN (PV.fld p6 1)) : Int))) then
      bif (true && true && (hokR h5 3 (PV.rI (PV.fld p6 1)) (0 : Int))) then
        c77 p1 (PV.num (List.getD (hrowOf h5 (PV.rI (PV.fld p6 1))) ((0 : Int)).toNat PV.nil)) n2 n3 (IntKind.wrap .i64 (n3 + (1 : Int))) n4 h5 fun n25 h26 =>
        bif (true && decide ((0 : Int) ≤ (0 : Int)) && decide ((0 : Int) < ((PV.rN (PV.fld p6 1)) : Int))) then
          bif (true && true && (hokR h26 3 (PV.rI (PV.fld p6 1)) (0 : Int))) then
            c53 p1 (PV.num (List.getD (hrowOf h26 (PV.rI (PV.fld p6 1))) ((0 : Int)).toNat PV.nil)) n3 n25 h26 fun p27 h28 =>
            next_w1_1 n25 [p27] h28
          else none
        else none
      else none
    else none
  else ret0 (PV.agg [(PV.int 6), (PV.int 0), (PV.list [])]) h5

theorem f53_w1b0_mem (k : Nat) (c52 : PV → Int → Int → Int → (List HE) → (Bool → (List HE) → R) → R) (c53 : PV → Int → Int → Int → (List HE) → (PV → (List HE) → R) → R) (c76 : PV → Int → (List HE) → (Int → (List HE) → R) → R) (c77 : PV → Int → Int → Int → Int → Int → (List HE) → (Int → (List HE) → R) → R) (c78 : PV → Int → Int → Int → Int → (List HE) → (PV → (List HE) → R) → R) (retF : PV × (List HE) → R) (NX_w1 : St → R) (p1 : PV) (n2 : Int) (n3 : Int) (n4 : Int) (h5 : List HE) (p6 : PV) : exec (f53_E k c52 c53 c76 c77 c78) f53_cw1 (purgeK (f53_E k c52 c53 c76 c77 c78) f53_cw1 (loopK NX_w1 (kont (f53_E k c52 c53 c76 c77 c78) f53_code [1, 1, 0, 1, 0, 1, 1, 1, 1, 1, 1, 1, 0, 1, 0, 0] (endK (f53_E k c52 c53 c76 c77 c78) Try.f53 [1000000000000] f53_un retF)))) (f53_hw1_0 p1 n2 n3 n4 h5 p6) = f53_w1b0 c52 c53 c76 c77 c78 (fun y0 y1 => retF (y0, y1)) (fun _ => NX_w1 (f53_hw1_0 p1 n2 n3 n4 h5 p6)) (fun n29 l30 h31 => NX_w1 (f53_hw1_1 p1 n2 n4 p6 n29 l30 h31)) p1 n2 n3 n4 h5 p6 := by kernel_rfl

noncomputable def f53_w1b0N (k : Nat) (c52 : PV → Int → Int → Int → (List HE) → (Bool → (List HE) → R) → R) (c53 : PV → Int → Int → Int → (List HE) → (PV → (List HE) → R) → R) (c76 : PV → Int → (List HE) → (Int → (List HE) → R) → R) (c77 : PV → Int → Int → Int → Int → Int → (List HE) → (Int → (List HE) → R) → R) (c78 : PV → Int → Int → Int → Int → (List HE) → (PV → (List HE) → R) → R) (ret0 : PV → (List HE) → R) (next_w1_0 : Unit → R) (next_w1_1 : Int → (List PV) → (List HE) → R) (p1 : PV) (n2 : Int) (n3 : Int) (n4 : Int) (h5 : List HE) (p6 : PV) : R :=
  f53_w1b0 c52 c53 c76 c77 c78 ret0 next_w1_0 next_w1_1 p1 n2 n3 n4 h5 p6
theorem f53_w1b0_eq (k : Nat) (c52 : PV → Int → Int → Int → (List HE) → (Bool → (List HE) → R) → R) (c53 : PV → Int → Int → Int → (List HE) → (PV → (List HE) → R) → R) (c76 : PV → Int → (List HE) → (Int → (List HE) → R) → R) (c77 : PV → Int → Int → Int → Int → Int → (List HE) → (Int → (List HE) → R) → R) (c78 : PV → Int → Int → Int → Int → (List HE) → (PV → (List HE) → R) → R) (retF : PV × (List HE) → R) (NX_w1 : St → R) (p1 : PV) (n2 : Int) (n3 : Int) (n4 : Int) (h5 : List HE) (p6 : PV) : exec (f53_E k c52 c53 c76 c77 c78) f53_cw1 (purgeK (f53_E k c52 c53 c76 c77 c78) f53_cw1 (loopK NX_w1 (kont (f53_E k c52 c53 c76 c77 c78) f53_code [1, 1, 0, 1, 0, 1, 1, 1, 1, 1, 1, 1, 0, 1, 0, 0] (endK (f53_E k c52 c53 c76 c77 c78) Try.f53 [1000000000000] f53_un retF)))) (f53_hw1_0 p1 n2 n3 n4 h5 p6) = f53_w1b0N k c52 c53 c76 c77 c78 (fun y0 y1 => retF (y0, y1)) (fun _ => NX_w1 (f53_hw1_0 p1 n2 n3 n4 h5 p6)) (fun n29 l30 h31 => NX_w1 (f53_hw1_1 p1 n2 n4 p6 n29 l30 h31)) p1 n2 n3 n4 h5 p6 :=
  (f53_w1b0_mem k c52 c53 c76 c77 c78 retF NX_w1 p1 n2 n3 n4 h5 p6)

noncomputable def f53_w1b1 (c52 : PV → Int → Int → Int → (List HE) → (Bool → (List HE) → R) → R) (c53 : PV → Int → Int → Int → (List HE) → (PV → (List HE) → R) → R) (c76 : PV → Int → (List HE) → (Int → (List HE) → R) → R) (c77 : PV → Int → Int → Int → Int → Int → (List HE) → (Int → (List HE) → R) → R) (c78 : PV → Int → Int → Int → Int → (List HE) → (PV → (List HE) → R) → R) (ret0 : PV → (List HE) → R) (next_w1_0 : Unit → R) (next_w1_1 : Int → (List PV) → (List HE) → R) (p1 : PV) (n2 : Int) (n3 : Int) (n4 : Int) (h5 : List HE) (p6 : PV) (n29 : Int) (l30 : List PV) (h31 : List HE) : R :=
  bif (decide (n29 < n4)) then
    bif (true && decide ((0 : Int) ≤ (0 : Int)) && decide ((0 : Int) < ((PV.rN (PV.fld p6 1)) : Int))) then
      bif (true && true && (hokR h31 3 (PV.rI (PV.fld p6 1)) (0 : Int))) then
        c77 p1 (PV.num (List.getD (hrowOf h31 (PV.rI (PV.fld p6 1))) ((0 : Int)).toNat PV.nil)) n2 n29 (IntKind.wrap .i64 (n29 + (1 : Int))) n4 h31 fun n32 h33 =>
        bif (true && decide ((0 : Int) ≤ (0 : Int)) && decide ((0 : Int) < ((PV.rN (PV.fld p6 1)) : Int))) then
          bif (true && true && (hokR h33 3 (PV.rI (PV.fld p6 1)) (0 : Int))) then
            c53 p1 (PV.num (List.getD (hrowOf h33 (PV.rI (PV.fld p6 1))) ((0 : Int)).toNat PV.nil)) n29 n32 h33 fun p34 h35 =>
            bif (true && roomy (List.length l30 + List.length [p34]) 40) then
              next_w1_1 n32 (l30 ++ [p34]) h35
            else none
          else none
        else none
      else none
    else none
  else ret0 (PV.agg [(PV.int 6), (PV.int 0), (PV.list l30)]) h31

theorem f53_w1b1_mem (k : Nat) (c52 : PV → Int → Int → Int → (List HE) → (Bool → (List HE) → R) → R) (c53 : PV → Int → Int → Int → (List HE) → (PV → (List HE) → R) → R) (c76 : PV → Int → (List HE) → (Int → (List HE) → R) → R) (c77 : PV → Int → Int → Int → Int → Int → (List HE) → (Int → (List HE) → R) → R) (c78 : PV → Int → Int → Int → Int → (List HE) → (PV → (List HE) → R) → R) (retF : PV × (List HE) → R) (NX_w1 : St → R) (p1 : PV) (n2 : Int) (n3 : Int) (n4 : Int) (h5 : List HE) (p6 : PV) (n29 : Int) (l30 : List PV) (h31 : List HE) : exec (f53_E k c52 c53 c76 c77 c78) f53_cw1 (purgeK (f53_E k c52 c53 c76 c77 c78) f53_cw1 (loopK NX_w1 (kont (f53_E k c52 c53 c76 c77 c78) f53_code [1, 1, 0, 1, 0, 1, 1, 1, 1, 1, 1, 1, 0, 1, 0, 0] (endK (f53_E k c52 c53 c76 c77 c78) Try.f53 [1000000000000] f53_un retF)))) (f53_hw1_1 p1 n2 n4 p6 n29 l30 h31) = f53_w1b1 c52 c53 c76 c77 c78 (fun y0 y1 => retF (y0, y1)) (fun _ => NX_w1 (f53_hw1_0 p1 n2 n3 n4 h5 p6)) (fun n29 l30 h31 => NX_w1 (f53_hw1_1 p1 n2 n4 p6 n29 l30 h31)) p1 n2 n3 n4 h5 p6 n29 l30 h31 := by kernel_rfl

noncomputable def f53_w1b1N (k : Nat) (c52 : PV → Int → Int → Int → (List HE) → (Bool → (List HE) → R) → R) (c53 : PV → Int → Int → Int → (List HE) → (PV → (List HE) → R) → R) (c76 : PV → Int → (List HE) → (Int → (List HE) → R) → R) (c77 : PV → Int → Int → Int → Int → Int → (List HE) → (Int → (List HE) → R) → R) (c78 : PV → Int → Int → Int → Int → (List HE) → (PV → (List HE) → R) → R) (ret0 : PV → (List HE) → R) (next_w1_0 : Unit → R) (next_w1_1 : Int → (List PV) → (List HE) → R) (p1 : PV) (n2 : Int) (n3 : Int) (n4 : Int) (h5 : List HE) (p6 : PV) (n29 : Int) (l30 : List PV) (h31 : List HE) : R :=
  f53_w1b1 c52 c53 c76 c77 c78 ret0 next_w1_0 next_w1_1 p1 n2 n3 n4 h5 p6 n29 l30 h31
theorem f53_w1b1_eq (k : Nat) (c52 : PV → Int → Int → Int → (List HE) → (Bool → (List HE) → R) → R) (c53 : PV → Int → Int → Int → (List HE) → (PV → (List HE) → R) → R) (c76 : PV → Int → (List HE) → (Int → (List HE) → R) → R) (c77 : PV → Int → Int → Int → Int → Int → (List HE) → (Int → (List HE) → R) → R) (c78 : PV → Int → Int → Int → Int → (List HE) → (PV → (List HE) → R) → R) (retF : PV × (List HE) → R) (NX_w1 : St → R) (p1 : PV) (n2 : Int) (n3 : Int) (n4 : Int) (h5 : List HE) (p6 : PV) (n29 : Int) (l30 : List PV) (h31 : List HE) : exec (f53_E k c52 c53 c76 c77 c78) f53_cw1 (purgeK (f53_E k c52 c53 c76 c77 c78) f53_cw1 (loopK NX_w1 (kont (f53_E k c52 c53 c76 c77 c78) f53_code [1, 1, 0, 1, 0, 1, 1, 1, 1, 1, 1, 1, 0, 1, 0, 0] (endK (f53_E k c52 c53 c76 c77 c78) Try.f53 [1000000000000] f53_un retF)))) (f53_hw1_1 p1 n2 n4 p6 n29 l30 h31) = f53_w1b1N k c52 c53 c76 c77 c78 (fun y0 y1 => retF (y0, y1)) (fun _ => NX_w1 (f53_hw1_0 p1 n2 n3 n4 h5 p6)) (fun n29 l30 h31 => NX_w1 (f53_hw1_1 p1 n2 n4 p6 n29 l30 h31)) p1 n2 n3 n4 h5 p6 n29 l30 h31 :=
  (f53_w1b1_mem k c52 c53 c76 c77 c78 retF NX_w1 p1 n2 n3 n4 h5 p6 n29 l30 h31)

noncomputable def f53_w1B (k : Nat) (c52 : PV → Int → Int → Int → (List HE) → (Bool → (List HE) → R) → R) (c53 : PV → Int → Int → Int → (List HE) → (PV → (List HE) → R) → R) (c76 : PV → Int → (List HE) → (Int → (List HE) → R) → R) (c77 : PV → Int → Int → Int → Int → Int → (List HE) → (Int → (List HE) → R) → R) (c78 : PV → Int → Int → Int → Int → (List HE) → (PV → (List HE) → R) → R) (ret0 : PV → (List HE) → R) (p1 : PV) (n2 : Int) (n3 : Int) (n4 : Int) (h5 : List HE) (p6 : PV) (nx : Sum (Unit) (Int × (List PV) × (List HE)) → R) : Sum (Unit) (Int × (List PV) × (List HE)) → R := (Sum.elim (fun s => f53_w1b0N k c52 c53 c76 c77 c78 ret0 (fun _ => nx (.inl ())) (fun n29 l30 h31 => nx (.inr (n29, l30, h31))) p1 n2 n3 n4 h5 p6) (fun s => f53_w1b1N k c52 c53 c76 c77 c78 ret0 (fun _ => nx (.inl ())) (fun n29 l30 h31 => nx (.inr (n29, l30, h31))) p1 n2 n3 n4 h5 p6 s.1 s.2.1 s.2.2))
noncomputable def f53_w1N (k : Nat) (c52 : PV → Int → Int → Int → (List HE) → (Bool → (List HE) → R) → R) (c53 : PV → Int → Int → Int → (List HE) → (PV → (List HE) → R) → R) (c76 : PV → Int → (List HE) → (Int → (List HE) → R) → R) (c77 : PV → Int → Int → Int → Int → Int → (List HE) → (Int → (List HE) → R) → R) (c78 : PV → Int → Int → Int → Int → (List HE) → (PV → (List HE) → R) → R) (ret0 : PV → (List HE) → R) (p1 : PV) (n2 : Int) (n3 : Int) (n4 : Int) (h5 : List HE) (p6 : PV) : R := loopR (f53_w1B k c52 c53 c76 c77 c78 ret0 p1 n2 n3 n4 h5 p6) k (.inl ())
theorem f53_w1_eq (k : Nat) (c52 : PV → Int → Int → Int → (List HE) → (Bool → (List HE) → R) → R) (c53 : PV → Int → Int → Int → (List HE) → (PV → (List HE) → R) → R) (c76 : PV → Int → (List HE) → (Int → (List HE) → R) → R) (c77 : PV → Int → Int → Int → Int → Int → (List HE) → (Int → (List HE) → R) → R) (c78 : PV → Int → Int → Int → Int → (List HE) → (PV → (List HE) → R) → R) (retF : PV × (List HE) → R) (p1 : PV) (n2 : Int) (n3 : Int) (n4 : Int) (h5 : List HE) (p6 : PV) : f53_w1A k c52 c53 c76 c77 c78 retF p1 n2 n3 n4 h5 p6 = f53_w1N k c52 c53 c76 c77 c78 (fun y0 y1 => retF (y0, y1)) p1 n2 n3 n4 h5 p6 :=
  Eq.mp (by kernel_rfl) (loop_sim (E := (f53_E k c52 c53 c76 c77 c78)) (c := f53_cw1) (K := (kont (f53_E k c52 c53 c76 c77 c78) f53_code [1, 1, 0, 1, 0, 1, 1, 1, 1, 1, 1, 1, 0, 1, 0, 0] (endK (f53_E k c52 c53 c76 c77 c78) Try.f53 [1000000000000] f53_un retF))) (S := Sum (Unit) (Int × (List PV) × (List HE))) (Sum.elim (fun s => f53_hw1_0 p1 n2 n3 n4 h5 p6) (fun s => f53_hw1_1 p1 n2 n4 p6 s.1 s.2.1 s.2.2)) (f53_w1B k c52 c53 c76 c77 c78 (fun y0 y1 => retF (y0, y1)) p1 n2 n3 n4 h5 p6) (fun NX s => by
    cases s with
    | inl s => exact Eq.mp (by kernel_rfl) (f53_w1b0_eq k c52 c53 c76 c77 c78 retF NX p1 n2 n3 n4 h5 p6)
    | inr s =>
      exact Eq.mp (by kernel_rfl) (f53_w1b1_eq k c52 c53 c76 c77 c78 retF NX p1 n2 n3 n4 h5 p6 s.1 s.2.1 s.2.2)) k (.inl ()))

noncomputable def f53_e (c52 : PV → Int → Int → Int → (List HE) → (Bool → (List HE) → R) → R) (c53 : PV → Int → Int → Int → (List HE) → (PV → (List HE) → R) → R) (c76 : PV → Int → (List HE) → (Int → (List HE) → R) → R) (c77 : PV → Int → Int → Int → Int → Int → (List HE) → (Int → (List HE) → R) → R) (c78 : PV → Int → Int → Int → Int → (List HE) → (PV → (List HE) → R) → R) (ret0 : PV → (List HE) → R) (w1 : PV → R) (p1 : PV) (n2 : Int) (n3 : Int) (n4 : Int) (h5 : List HE) : R :=
  bif (PV.isRp p1) then
    bif (true && true && (hokV h5 90 (PV.rI p1))) then
      bif (PV.isRp (PV.fld (hvarOf h5 (PV.rI p1)) 0)) then
        bif (true && true && (hokV h5 116 (PV.rI (PV.fld (hvarOf h5 (PV.rI p1)) 0)))) then
          bif (true && decide ((0 : Int) ≤ n2) && decide (n2 < ((PV.rN (PV.fld (hvarOf h5 (PV.rI (PV.fld (hvarOf h5 (PV.rI p1)) 0))) 0)) : Int))) then
            bif (true && true && (hokR h5 122 (PV.rI (PV.fld (hvarOf h5 (PV.rI (PV.fld (hvarOf h5 (PV.rI p1)) 0))) 0)) n2)) then
              let p6 : PV := (List.getD (hrowOf h5 (PV.rI (PV.fld (hvarOf h5 (PV.rI (PV.fld (hvarOf h5 (PV.rI p1)) 0))) 0))) (n2).toNat PV.nil)
              bif (decide ((PV.num (PV.fld (PV.fld p6 0) 0)) = (2 : Int))) then
                bif (PV.isRp p1) then
                  bif (true && true && (hokV h5 90 (PV.rI p1))) then
                    c76 (PV.fld (hvarOf h5 (PV.rI p1)) 0) n3 h5 fun n7 h8 =>
                    ret0 (PV.agg [(PV.int 2), (PV.int n7), (PV.list [])]) h8
                  else none
                else none
              else bif (decide ((PV.num (PV.fld (PV.fld p6 0) 0)) = (3 : Int))) then
                bif (true && decide ((0 : Int) ≤ (0 : Int)) && decide ((0 : Int) < ((PV.rN (PV.fld p6 1)) : Int))) then
                  bif (true && true && (hokR h5 3 (PV.rI (PV.fld p6 1)) (0 : Int))) then
                    bif (true && decide ((0 : Int) ≤ (1 : Int)) && decide ((1 : Int) < ((PV.rN (PV.fld p6 1)) : Int))) then
                      bif (true && true && (hokR h5 3 (PV.rI (PV.fld p6 1)) (1 : Int))) then
                        c77 p1 (PV.num (List.getD (hrowOf h5 (PV.rI (PV.fld p6 1))) ((0 : Int)).toNat PV.nil)) (PV.num (List.getD (hrowOf h5 (PV.rI (PV.fld p6 1))) ((1 : Int)).toNat PV.nil)) n3 n3 n4 h5 fun n9 h10 =>
                        bif (true && decide ((0 : Int) ≤ (0 : Int)) && decide ((0 : Int) < ((PV.rN (PV.fld p6 1)) : Int))) then
                          bif (true && true && (hokR h10 3 (PV.rI (PV.fld p6 1)) (0 : Int))) then
                            bif (true && decide ((0 : Int) ≤ (1 : Int)) && decide ((1 : Int) < ((PV.rN (PV.fld p6 1)) : Int))) then
                              bif (true && true && (hokR h10 3 (PV.rI (PV.fld p6 1)) (1 : Int))) then
                                bif (PV.beq (PV.fld p6 1) (PV.fld p6 1)) then
                                  bif (true && decide ((0 : Int) ≤ (1 : Int)) && decide ((1 : Int) < ((PV.rN (PV.fld p6 1)) : Int))) then
                                    bif (((PV.rI (PV.fld p6 1)) == (PV.rI (PV.fld p6 1))) && true) then
                                      bif (true && true && (hokR h10 3 (PV.rI (PV.fld p6 1)) (1 : Int))) then
                                        bif (decide ((PV.num (List.getD (hrowOf h10 (PV.rI (PV.fld p6 1))) ((1 : Int)).toNat PV.nil)) = (PV.num (List.getD (hrowOf h10 (PV.rI (PV.fld p6 1))) ((1 : Int)).toNat PV.nil)))) then
                                          c53 p1 (PV.num (List.getD (hrowOf h10 (PV.rI (PV.fld p6 1))) ((0 : Int)).toNat PV.nil)) n3 n9 h10 fun p11 h12 =>
                                          bif (PV.beq (PV.fld p6 1) (PV.fld p6 1)) then
                                            bif (true && decide ((0 : Int) ≤ (1 : Int)) && decide ((1 : Int) < ((PV.rN (PV.fld p6 1)) : Int))) then
                                              bif (((PV.rI (PV.fld p6 1)) == (PV.rI (PV.fld p6 1))) && true) then
                                                bif (true && true && (hokR h12 3 (PV.rI (PV.fld p6 1)) (1 : Int))) then
                                                  bif (decide ((PV.num (List.getD (hrowOf h12 (PV.rI (PV.fld p6 1))) ((1 : Int)).toNat PV.nil)) = (PV.num (List.getD (hrowOf h10 (PV.rI (PV.fld p6 1))) ((1 : Int)).toNat PV.nil)))) then
                                                    c53 p1 (PV.num (List.getD (hrowOf h10 (PV.rI (PV.fld p6 1))) ((1 : Int)).toNat PV.nil)) n9 n4 h12 fun p13 h14 =>
                                                    ret0 (PV.agg [(PV.int 3), (PV.int 0), (PV.list [p11, p13])]) h14
                                                  else none
                                                else none
                                              else none
                                            else none
                                          else none
                                        else none
                                      else none
                                    else none
                                  else none
                                else none
                              else none
                            else none
                          else none
                        else none
                      else none
                    else none
                  else none
                else none
              else bif (decide ((PV.num (PV.fld (PV.fld p6 0) 0)) = (4 : Int))) then
                bif (PV.isRp p1) then
                  bif (true && true && (hokV h5 90 (PV.rI p1))) then
                    bif (true && decide ((0 : Int) ≤ (0 : Int)) && decide ((0 : Int) < ((PV.rN (PV.fld p6 1)) : Int))) then
                      bif (true && true && (hokR h5 3 (PV.rI (PV.fld p6 1)) (0 : Int))) then
                        c52 (PV.fld (hvarOf h5 (PV.rI p1)) 0) (PV.num (List.getD (hrowOf h5 (PV.rI (PV.fld p6 1))) ((0 : Int)).toNat PV.nil)) n3 n4 h5 fun b15 h16 =>
                        bif b15 then
                          bif (true && decide ((0 : Int) ≤ (0 : Int)) && decide ((0 : Int) < ((PV.rN (PV.fld p6 1)) : Int))) then
                            bif (true && true && (hokR h16 3 (PV.rI (PV.fld p6 1)) (0 : Int))) then
                              c78 p1 4 (PV.num (List.getD (hrowOf h16 (PV.rI (PV.fld p6 1))) ((0 : Int)).toNat PV.nil)) n3 n4 h16 fun p17 h18 =>
                              ret0 p17 h18
                            else none
                          else none
                        else bif (true && decide ((0 : Int) ≤ (1 : Int)) && decide ((1 : Int) < ((PV.rN (PV.fld p6 1)) : Int))) then
                          bif (true && true && (hokR h16 3 (PV.rI (PV.fld p6 1)) (1 : Int))) then
                            c78 p1 5 (PV.num (List.getD (hrowOf h16 (PV.rI (PV.fld p6 1))) ((1 : Int)).toNat PV.nil)) n3 n4 h16 fun p19 h20 =>
                            ret0 p19 h20
                          else none
                        else none
                      else none
                    else none
                  else none
                else none
              else bif (decide ((PV.num (PV.fld (PV.fld p6 0) 0)) = (5 : Int))) then
                w1 p6
              else bif (decide ((PV.num (PV.fld (PV.fld p6 0) 0)) = (6 : Int))) then
                bif (true && decide ((0 : Int) ≤ (0 : Int)) && decide ((0 : Int) < ((PV.rN (PV.fld p6 1)) : Int))) then
                  bif (true && true && (hokR h5 3 (PV.rI (PV.fld p6 1)) (0 : Int))) then
                    c78 p1 7 (PV.num (List.getD (hrowOf h5 (PV.rI (PV.fld p6 1))) ((0 : Int)).toNat PV.nil)) n3 n4 h5 fun p36 h37 =>
                    ret0 p36 h37
                  else none
                else none
              else bif (decide ((PV.num (PV.fld (PV.fld p6 0) 0)) = (7 : Int))) then
                bif (true && decide ((0 : Int) ≤ (0 : Int)) && decide ((0 : Int) < ((PV.rN (PV.fld p6 1)) : Int))) then
                  bif (true && true && (hokR h5 3 (PV.rI (PV.fld p6 1)) (0 : Int))) then
                    c53 p1 (PV.num (List.getD (hrowOf h5 (PV.rI (PV.fld p6 1))) ((0 : Int)).toNat PV.nil)) n3 n4 h5 fun p38 h39 =>
                    ret0 p38 h39
                  else none
                else none
              else ret0 (PV.agg [(PV.int 1), (PV.int 0), (PV.list [])]) h5
            else none
          else none
        else none
      else none
    else none
  else none

theorem f53_e_mem (k : Nat) (c52 : PV → Int → Int → Int → (List HE) → (Bool → (List HE) → R) → R) (c53 : PV → Int → Int → Int → (List HE) → (PV → (List HE) → R) → R) (c76 : PV → Int → (List HE) → (Int → (List HE) → R) → R) (c77 : PV → Int → Int → Int → Int → Int → (List HE) → (Int → (List HE) → R) → R) (c78 : PV → Int → Int → Int → Int → (List HE) → (PV → (List HE) → R) → R) (retF : PV × (List HE) → R) (p1 : PV) (n2 : Int) (n3 : Int) (n4 : Int) (h5 : List HE) : exec (f53_E k c52 c53 c76 c77 c78) f53_code (endK (f53_E k c52 c53 c76 c77 c78) Try.f53 [1000000000000] f53_un retF) ⟨[.hval 32 p1, .int .i64 n2, .int .i64 n3, .int .i64 n4, .undef, .undef, .undef, .undef, .undef, .undef, .undef, .undef, .undef, .undef, .undef, .undef, .undef, .undef, .undef, .undef, .undef, .undef, .undef, .undef, .undef, .undef, .undef, .undef, .undef, .undef, .undef, .undef, .undef, .undef, .undef, .undef, .undef, .undef, .undef, .undef, .undef, .undef, .undef, .undef, .undef, .undef, .undef, .undef, .undef, .undef, .undef, .undef, .undef, .undef, .undef, .undef, .undef, .undef, .undef, .undef, .undef, .undef, .undef, .undef, .undef, .undef, .undef, .undef, .undef, .undef, .undef, .undef, .undef, .undef, .undef, .undef, .undef, .undef, .undef, .undef, .undef, .undef, .undef, .undef, .undef, .undef, .undef, .undef, .undef, .undef, .undef, .undef, .undef, .undef, .undef, .undef, .undef, .undef, .undef, .undef, .undef, .undef, .undef, .undef, .undef, .undef, .undef, .undef, .undef, .undef, .undef, .undef, .undef, .undef, .undef, .undef, .undef, .undef, .undef, .undef, .undef, .undef, .undef, .undef, .undef, .undef, .undef, .undef, .undef, .undef, .undef, .undef, .undef, .undef, .undef, .undef, .undef, .undef, .undef, .undef, .undef, .undef, .undef, .undef, .undef, .undef, .undef, .undef, .undef, .undef], [(1000000000000, .hp h5)]⟩ = f53_e c52 c53 c76 c77 c78 (fun y0 y1 => retF (y0, y1)) (fun p6 => f53_w1A k c52 c53 c76 c77 c78 retF p1 n2 n3 n4 h5 p6) p1 n2 n3 n4 h5 := by kernel_rfl

noncomputable def f53_N (k : Nat) (c52 : PV → Int → Int → Int → (List HE) → (Bool → (List HE) → R) → R) (c53 : PV → Int → Int → Int → (List HE) → (PV → (List HE) → R) → R) (c76 : PV → Int → (List HE) → (Int → (List HE) → R) → R) (c77 : PV → Int → Int → Int → Int → Int → (List HE) → (Int → (List HE) → R) → R) (c78 : PV → Int → Int → Int → Int → (List HE) → (PV → (List HE) → R) → R) (ret0 : PV → (List HE) → R) (p1 : PV) (n2 : Int) (n3 : Int) (n4 : Int) (h5 : List HE) : R :=
  f53_e c52 c53 c76 c77 c78 ret0 (fun p6 => f53_w1N k c52 c53 c76 c77 c78 ret0 p1 n2 n3 n4 h5 p6) p1 n2 n3 n4 h5
theorem f53_eq (k : Nat) (c52 : PV → Int → Int → Int → (List HE) → (Bool → (List HE) → R) → R) (c53 : PV → Int → Int → Int → (List HE) → (PV → (List HE) → R) → R) (c76 : PV → Int → (List HE) → (Int → (List HE) → R) → R) (c77 : PV → Int → Int → Int → Int → Int → (List HE) → (Int → (List HE) → R) → R) (c78 : PV → Int → Int → Int → Int → (List HE) → (PV → (List HE) → R) → R) (retF : PV × (List HE) → R) (p1 : PV) (n2 : Int) (n3 : Int) (n4 : Int) (h5 : List HE) : exec (f53_E k c52 c53 c76 c77 c78) f53_code (endK (f53_E k c52 c53 c76 c77 c78) Try.f53 [1000000000000] f53_un retF) ⟨[.hval 32 p1, .int .i64 n2, .int .i64 n3, .int .i64 n4, .undef, .undef, .undef, .undef, .undef, .undef, .undef, .undef, .undef, .undef, .undef, .undef, .undef, .undef, .undef, .undef, .undef, .undef, .undef, .undef, .undef, .undef, .undef, .undef, .undef, .undef, .undef, .undef, .undef, .undef, .undef, .undef, .undef, .undef, .undef, .undef, .undef, .undef, .undef, .undef, .undef, .undef, .undef, .undef, .undef, .undef, .undef, .undef, .undef, .undef, .undef, .undef, .undef, .undef, .undef, .undef, .undef, .undef, .undef, .undef, .undef, .undef, .undef, .undef, .undef, .undef, .undef, .undef, .undef, .undef, .undef, .undef, .undef, .undef, .undef, .undef, .undef, .undef, .undef, .undef, .undef, .undef, .undef, .undef, .undef, .undef, .undef, .undef, .undef, .undef, .undef, .undef, .undef, .undef, .undef, .undef, .undef, .undef, .undef, .undef, .undef, .undef, .undef, .undef, .undef, .undef, .undef, .undef, .undef, .undef, .undef, .undef, .undef, .undef, .undef, .undef, .undef, .undef, .undef, .undef, .undef, .undef, .undef, .undef, .undef, .undef, .undef, .undef, .undef, .undef, .undef, .undef, .undef, .undef, .undef, .undef, .undef, .undef, .undef, .undef, .undef, .undef, .undef, .undef, .undef, .undef], [(1000000000000, .hp h5)]⟩ = f53_N k c52 c53 c76 c77 c78 (fun y0 y1 => retF (y0, y1)) p1 n2 n3 n4 h5 :=
  (f53_e_mem k c52 c53 c76 c77 c78 retF p1 n2 n3 n4 h5).trans (by rw [show (fun p6 => f53_w1A k c52 c53 c76 c77 c78 retF p1 n2 n3 n4 h5 p6) = (fun p6 => f53_w1N k c52 c53 c76 c77 c78 (fun y0 y1 => retF (y0, y1)) p1 n2 n3 n4 h5 p6) from funext fun p6 => f53_w1_eq k c52 c53 c76 c77 c78 retF p1 n2 n3 n4 h5 p6]; rfl)

mutual
noncomputable def G78 : Nat → PV → Int → Int → Int → Int → (List HE) → (PV → (List HE) → R) → R
  | 0, _, _, _, _, _, _, _ => none
  | k + 1, p1, n2, n3, n4, n5, h6, ret0 => f78_N k (G53 k) ret0 p1 n2 n3 n4 n5 h6
noncomputable def G53 : Nat → PV → Int → Int → Int → (List HE) → (PV → (List HE) → R) → R
  | 0, _, _, _, _, _, _ => none
  | k + 1, p1, n2, n3, n4, h5, ret0 => f53_N k (G52 k) (G53 k) (G76 k) (G77 k) (G78 k) ret0 p1 n2 n3 n4 h5
end
mutual
theorem S78 : ∀ k, Snd Try.prog 78 f78_I f78_O (fun x ret => G78 k x.1 x.2.1 x.2.2.1 x.2.2.2.1 x.2.2.2.2.1 x.2.2.2.2.2 (fun y0 y1 => ret (y0, y1)))
  | 0 => snd_none
  | k + 1 => snd_step (E := f78_E k (G53 k)) rfl laidOut noNums (orc_ok (S53 k).o f53_D_ok orc0_ok) (f := 78) (fn := Try.f78) (code := f78_code) Try.func78 (by kernel_rfl) (drawsOk_of laidOut (orc_ok (S53 k).o f53_D_ok orc0_ok) mixed (by kernel_rfl)) f78_un f78_un_ok [1000000000000] (fun _ => rfl)
      (fun x ret => f78_eq k (G53 k) ret x.1 x.2.1 x.2.2.1 x.2.2.2.1 x.2.2.2.2.1 x.2.2.2.2.2)
theorem S53 : ∀ k, Snd Try.prog 53 f53_I f53_O (fun x ret => G53 k x.1 x.2.1 x.2.2.1 x.2.2.2.1 x.2.2.2.2 (fun y0 y1 => ret (y0, y1)))
  | 0 => snd_none
  | k + 1 => snd_step (E := f53_E k (G52 k) (G53 k) (G76 k) (G77 k) (G78 k)) rfl laidOut noNums (orc_ok (S52 k).o f52_D_ok (orc_ok (S53 k).o f53_D_ok (orc_ok (S76 k).o f76_D_ok (orc_ok (S77 k).o f77_D_ok (orc_ok (S78 k).o f78_D_ok orc0_ok))))) (f := 53) (fn := Try.f53) (code := f53_code) Try.func53 (by kernel_rfl) (drawsOk_of laidOut (orc_ok (S52 k).o f52_D_ok (orc_ok (S53 k).o f53_D_ok (orc_ok (S76 k).o f76_D_ok (orc_ok (S77 k).o f77_D_ok (orc_ok (S78 k).o f78_D_ok orc0_ok))))) mixed (by kernel_rfl)) f53_un f53_un_ok [1000000000000] (fun _ => rfl)
      (fun x ret => f53_eq k (G52 k) (G53 k) (G76 k) (G77 k) (G78 k) ret x.1 x.2.1 x.2.2.1 x.2.2.2.1 x.2.2.2.2)
end

/- (*catchpole/span.Spans).Best -/
noncomputable def f18_I : PV × PV × Int × Int × (List HE) → List SV × Obs := fun x => ([.hval 32 x.1, .val 42 x.2.1, .int .i64 x.2.2.1, .int .i64 x.2.2.2.1], [(1000000000000, .hp x.2.2.2.2)])
noncomputable def f18_D : List SV → Obs → Option (PV × PV × Int × Int × (List HE))
  | [.hval 32 p1, .val 42 p2, .int .i64 n3, .int .i64 n4], [(1000000000000, .hp h5)] => some (p1, p2, n3, n4, h5)
  | _, _ => none
theorem f18_D_ok (args : List SV) (B : Obs) (x : PV × PV × Int × Int × (List HE)) (h : f18_D args B = some x) : f18_I x = (args, B) := by
  unfold f18_D at h
  split at h
  · injection h with h; subst h; rfl
  · cases h
noncomputable def f18_O : PV × Int × (List HE) → Out := (fun y => ([.val 39 y.1, .int .i64 y.2.1], [(1000000000000, .hp y.2.2)]))
noncomputable def f18_un : Out → Option (PV × Int × (List HE))
  | ([.val 39 y0, .int .i64 y1], [(1000000000000, .hp y2)]) => some (y0, y1, y2)
  | _ => none
theorem f18_un_ok (o : Out) (y : PV × Int × (List HE)) (h : f18_un o = some y) : o = f18_O y := by
  unfold f18_un at h
  split at h
  · injection h with h; subst h; rfl
  · cases h
noncomputable def f18_msk : Nat → Option (List Nat) := fun key =>  none
noncomputable def f18_C (c51 : PV → PV → Int → Int → (List HE) → (Int → Bool → (List HE) → R) → R) (c52 : PV → Int → Int → Int → (List HE) → (Bool → (List HE) → R) → R) (c53 : PV → Int → Int → Int → (List HE) → (PV → (List HE) → R) → R) : Oracle := orc 51 f51_D f51_O (fun x ret => c51 x.1 x.2.1 x.2.2.1 x.2.2.2.1 x.2.2.2.2 (fun y0 y1 y2 => ret (y0, y1, y2))) <| orc 52 f52_D f52_O (fun x ret => c52 x.1 x.2.1 x.2.2.1 x.2.2.2.1 x.2.2.2.2 (fun y0 y1 => ret (y0, y1))) <| orc 53 f53_D f53_O (fun x ret => c53 x.1 x.2.1 x.2.2.1 x.2.2.2.1 x.2.2.2.2 (fun y0 y1 => ret (y0, y1))) <| orc0
noncomputable def f18_E (k : Nat) (c51 : PV → PV → Int → Int → (List HE) → (Int → Bool → (List HE) → R) → R) (c52 : PV → Int → Int → Int → (List HE) → (Bool → (List HE) → R) → R) (c53 : PV → Int → Int → Int → (List HE) → (PV → (List HE) → R) → R) : Env := { P := Try.prog, nilOwn := fun d => false, fldOwn := fun d i => false, ownPar := ownPars, ownRet := false, hpD := fun d => false, hpF := hpFs, hpNew := false, mask := f18_msk, fuel := k, C := f18_C c51 c52 c53 }
noncomputable def f18_code : Code := Try.f18.body.getD .skip
noncomputable def f18_e (c51 : PV → PV → Int → Int → (List HE) → (Int → Bool → (List HE) → R) → R) (c52 : PV → Int → Int → Int → (List HE) → (Bool → (List HE) → R) → R) (c53 : PV → Int → Int → Int → (List HE) → (PV → (List HE) → R) → R) (ret0 : PV → Int → (List HE) → R) (p1 : PV) (p2 : PV) (n3 : Int) (n4 : Int) (h5 : List HE) : R :=
  c51 p1 p2 n3 n4 h5 fun n6 b7 h8 =>
  bif (!b7) then
    ret0 (PV.agg [(PV.int 0), (PV.int 0), (PV.list [])]) 1 h8
  else bif (PV.isRp p1) then
    bif (true && true && (hokV h8 90 (PV.rI p1))) then
      c52 (PV.fld (hvarOf h8 (PV.rI p1)) 0) n6 n3 n4 h8 fun b9 h10 =>
      bif (!b9) then
        ret0 (PV.agg [(PV.int 0), (PV.int 0), (PV.list [])]) 5 h10
      else c53 p1 n6 n3 n4 h10 fun p11 h12 =>
      ret0 p11 0 h12
    else none
  else none

theorem f18_e_mem (k : Nat) (c51 : PV → PV → Int → Int → (List HE) → (Int → Bool → (List HE) → R) → R) (c52 : PV → Int → Int → Int → (List HE) → (Bool → (List HE) → R) → R) (c53 : PV → Int → Int → Int → (List HE) → (PV → (List HE) → R) → R) (retF : PV × Int × (List HE) → R) (p1 : PV) (p2 : PV) (n3 : Int) (n4 : Int) (h5 : List HE) : exec (f18_E k c51 c52 c53) f18_code (endK (f18_E k c51 c52 c53) Try.f18 [1000000000000] f18_un retF) ⟨[.hval 32 p1, .val 42 p2, .int .i64 n3, .int .i64 n4, .undef, .undef, .undef, .undef, .undef, .undef, .undef, .undef, .undef, .undef, .undef, .undef, .undef, .undef, .undef, .undef, .undef, .undef, .undef, .undef, .undef, .undef, .undef, .undef, .undef, .undef, .undef, .undef, .undef, .undef, .undef, .undef, .undef, .undef, .undef, .undef], [(1000000000000, .hp h5)]⟩ = f18_e c51 c52 c53 (fun y0 y1 y2 => retF (y0, y1, y2)) p1 p2 n3 n4 h5 := by kernel_rfl

noncomputable def f18_N (k : Nat) (c51 : PV → PV → Int → Int → (List HE) → (Int → Bool → (List HE) → R) → R) (c52 : PV → Int → Int → Int → (List HE) → (Bool → (List HE) → R) → R) (c53 : PV → Int → Int → Int → (List HE) → (PV → (List HE) → R) → R) (ret0 : PV → Int → (List HE) → R) (p1 : PV) (p2 : PV) (n3 : Int) (n4 : Int) (h5 : List HE) : R :=
  f18_e c51 c52 c53 ret0 p1 p2 n3 n4 h5
theorem f18_eq (k : Nat) (c51 : PV → PV → Int → Int → (List HE) → (Int → Bool → (List HE) → R) → R) (c52 : PV → Int → Int → Int → (List HE) → (Bool → (List HE) → R) → R) (c53 : PV → Int → Int → Int → (List HE) → (PV → (List HE) → R) → R) (retF : PV × Int × (List HE) → R) (p1 : PV) (p2 : PV) (n3 : Int) (n4 : Int) (h5 : List HE) : exec (f18_E k c51 c52 c53) f18_code (endK (f18_E k c51 c52 c53) Try.f18 [1000000000000] f18_un retF) ⟨[.hval 32 p1, .val 42 p2, .int .i64 n3, .int .i64 n4, .undef, .undef, .undef, .undef, .undef, .undef, .undef, .undef, .undef, .undef, .undef, .undef, .undef, .undef, .undef, .undef, .undef, .undef, .undef, .undef, .undef, .undef, .undef, .undef, .undef, .undef, .undef, .undef, .undef, .undef, .undef, .undef, .undef, .undef, .undef, .undef], [(1000000000000, .hp h5)]⟩ = f18_N k c51 c52 c53 (fun y0 y1 y2 => retF (y0, y1, y2)) p1 p2 n3 n4 h5 :=
  (f18_e_mem k c51 c52 c53 retF p1 p2 n3 n4 h5)

noncomputable def G18 : Nat → PV → PV → Int → Int → (List HE) → (PV → Int → (List HE) → R) → R
  | 0, _, _, _, _, _, _ => none
  | k + 1, p1, p2, n3, n4, h5, ret0 => f18_N k (G51 k) (G52 k) (G53 k) ret0 p1 p2 n3 n4 h5
theorem S18 : ∀ k, Snd Try.prog 18 f18_I f18_O (fun x ret => G18 k x.1 x.2.1 x.2.2.1 x.2.2.2.1 x.2.2.2.2 (fun y0 y1 y2 => ret (y0, y1, y2)))
  | 0 => snd_none
  | k + 1 => snd_step (E := f18_E k (G51 k) (G52 k) (G53 k)) rfl laidOut noNums (orc_ok (S51 k).o f51_D_ok (orc_ok (S52 k).o f52_D_ok (orc_ok (S53 k).o f53_D_ok orc0_ok))) (f := 18) (fn := Try.f18) (code := f18_code) Try.func18 (by kernel_rfl) (drawsOk_of laidOut (orc_ok (S51 k).o f51_D_ok (orc_ok (S52 k).o f52_D_ok (orc_ok (S53 k).o f53_D_ok orc0_ok))) mixed (by kernel_rfl)) f18_un f18_un_ok [1000000000000] (fun _ => rfl)
      (fun x ret => f18_eq k (G51 k) (G52 k) (G53 k) ret x.1 x.2.1 x.2.2.1 x.2.2.2.1 x.2.2.2.2)

/- catchpole/span.Full -/
noncomputable def f19_I : PV × PV → List SV × Obs := fun x => ([.val 28 x.1, .val 36 x.2], [])
noncomputable def f19_D : List SV → Obs → Option (PV × PV)
  | [.val 28 p1, .val 36 p2], [] => some (p1, p2)
  | _, _ => none
theorem f19_D_ok (args : List SV) (B : Obs) (x : PV × PV) (h : f19_D args B = some x) : f19_I x = (args, B) := by
  unfold f19_D at h
  split at h
  · injection h with h; subst h; rfl
  · cases h
noncomputable def f19_O : PV × Int → Out := (fun y => ([.val 39 y.1, .int .i64 y.2], []))
noncomputable def f19_un : Out → Option (PV × Int)
  | ([.val 39 y0, .int .i64 y1], []) => some (y0, y1)
  | _ => none
theorem f19_un_ok (o : Out) (y : PV × Int) (h : f19_un o = some y) : o = f19_O y := by
  unfold f19_un at h
  split at h
  · injection h with h; subst h; rfl
  · cases h
noncomputable def f19_msk : Nat → Option (List Nat) := fun key =>  none
noncomputable def f19_C (c17 : PV → PV → (List HE) → (PV → Int → (List HE) → R) → R) (c18 : PV → PV → Int → Int → (List HE) → (PV → Int → (List HE) → R) → R) : Oracle := orc 17 f17_D f17_O (fun x ret => c17 x.1 x.2.1 x.2.2 (fun y0 y1 y2 => ret (y0, y1, y2))) <| orc 18 f18_D f18_O (fun x ret => c18 x.1 x.2.1 x.2.2.1 x.2.2.2.1 x.2.2.2.2 (fun y0 y1 y2 => ret (y0, y1, y2))) <| orc0
noncomputable def f19_E (k : Nat) (c17 : PV → PV → (List HE) → (PV → Int → (List HE) → R) → R) (c18 : PV → PV → Int → Int → (List HE) → (PV → Int → (List HE) → R) → R) : Env := { P := Try.prog, nilOwn := fun d => false, fldOwn := fun d i => false, ownPar := ownPars, ownRet := false, hpD := fun d => false, hpF := hpFs, hpNew := true, mask := f19_msk, fuel := k, C := f19_C c17 c18 }
noncomputable def f19_code : Code := Try.f19.body.getD .skip
noncomputable def f19_e (c17 : PV → PV → (List HE) → (PV → Int → (List HE) → R) → R) (c18 : PV → PV → Int → Int → (List HE) → (PV → Int → (List HE) → R) → R) (ret0 : PV → Int → R) (p1 : PV) (p2 : PV) : R :=
  c17 p1 p2 ([] : List HE) fun p3 n4 h5 =>
  bif (!(decide (n4 = (0 : Int)))) then
    ret0 (PV.agg [(PV.int 0), (PV.int 0), (PV.list [])]) n4
  else c18 p3 (PV.list []) 0 (List.length (PV.els p2) : Int) h5 fun p6 n7 h8 =>
  ret0 p6 n7

theorem f19_e_mem (k : Nat) (c17 : PV → PV → (List HE) → (PV → Int → (List HE) → R) → R) (c18 : PV → PV → Int → Int → (List HE) → (PV → Int → (List HE) → R) → R) (retF : PV × Int → R) (p1 : PV) (p2 : PV) : exec (f19_E k c17 c18) f19_code (endK (f19_E k c17 c18) Try.f19 [] f19_un retF) ⟨[.val 28 p1, .val 36 p2, .undef, .undef, .undef, .undef, .undef, .undef, .undef, .undef, .undef, .undef, .undef, .undef, .undef, .undef, .undef, .undef, .undef, .undef, .undef, .undef, .undef, .undef], [(1000000000000, .hp ([] : List HE))]⟩ = f19_e c17 c18 (fun y0 y1 => retF (y0, y1)) p1 p2 := by kernel_rfl

noncomputable def f19_N (k : Nat) (c17 : PV → PV → (List HE) → (PV → Int → (List HE) → R) → R) (c18 : PV → PV → Int → Int → (List HE) → (PV → Int → (List HE) → R) → R) (ret0 : PV → Int → R) (p1 : PV) (p2 : PV) : R :=
  f19_e c17 c18 ret0 p1 p2
theorem f19_eq (k : Nat) (c17 : PV → PV → (List HE) → (PV → Int → (List HE) → R) → R) (c18 : PV → PV → Int → Int → (List HE) → (PV → Int → (List HE) → R) → R) (retF : PV × Int → R) (p1 : PV) (p2 : PV) : exec (f19_E k c17 c18) f19_code (endK (f19_E k c17 c18) Try.f19 [] f19_un retF) ⟨[.val 28 p1, .val 36 p2, .undef, .undef, .undef, .undef, .undef, .undef, .undef, .undef, .undef, .undef, .undef, .undef, .undef, .undef, .undef, .undef, .undef, .undef, .undef, .undef, .undef, .undef], [(1000000000000, .hp ([] : List HE))]⟩ = f19_N k c17 c18 (fun y0 y1 => retF (y0, y1)) p1 p2 :=
  (f19_e_mem k c17 c18 retF p1 p2)

noncomputable def G19 : Nat → PV → PV → (PV → Int → R) → R
  | 0, _, _, _ => none
  | k + 1, p1, p2, ret0 => f19_N k (G17 k) (G18 k) ret0 p1 p2
theorem S19 : ∀ k, Snd Try.prog 19 f19_I f19_O (fun x ret => G19 k x.1 x.2 (fun y0 y1 => ret (y0, y1)))
  | 0 => snd_none
  | k + 1 => snd_step (E := f19_E k (G17 k) (G18 k)) rfl laidOut noNums (orc_ok (S17 k).o f17_D_ok (orc_ok (S18 k).o f18_D_ok orc0_ok)) (f := 19) (fn := Try.f19) (code := f19_code) Try.func19 (by kernel_rfl) (drawsOk_of laidOut (orc_ok (S17 k).o f17_D_ok (orc_ok (S18 k).o f18_D_ok orc0_ok)) mixed (by kernel_rfl)) f19_un f19_un_ok [] (fun _ => rfl)
      (fun x ret => f19_eq k (G17 k) (G18 k) ret x.1 x.2)

/- (*strings.Builder).copyCheck -/
noncomputable def f99_I : PV × (List PV) → List SV × Obs := fun x => ([.ptr 2000000 []], [(2000000, .box 97 (.agg 97 [.val 95 x.1, .own 36 2000001])), (2000001, .row 5 x.2)])
noncomputable def f99_D : List SV → Obs → Option (PV × (List PV))
  | [.ptr 2000000 []], [(2000000, .box 97 (.agg 97 [.val 95 p1, .own 36 2000001])), (2000001, .row 5 l2)] => some (p1, l2)
  | _, _ => none
theorem f99_D_ok (args : List SV) (B : Obs) (x : PV × (List PV)) (h : f99_D args B = some x) : f99_I x = (args, B) := by
  unfold f99_D at h
  split at h
  · injection h with h; subst h; rfl
  · cases h
noncomputable def f99_O : (List PV) → Out := (fun y => ([], [(2000000, .box 97 (.agg 97 [.ptr 2000000 [], .own 36 2000001])), (2000001, .row 5 y)]))
noncomputable def f99_un : Out → Option ((List PV))
  | ([], [(2000000, .box 97 (.agg 97 [.ptr 2000000 [], .own 36 2000001])), (2000001, .row 5 y0)]) => some y0
  | _ => none
theorem f99_un_ok (o : Out) (y : (List PV)) (h : f99_un o = some y) : o = f99_O y := by
  unfold f99_un at h
  split at h
  · injection h with h; subst h; rfl
  · cases h

noncomputable def G99 : Nat → PV → (List PV) → ((List PV) → R) → R
  | _, p, l, ret0 => bif PV.isNil p then ret0 l else none
theorem S99 : ∀ k, SndO Try.prog 99 f99_I f99_O (fun x ret => G99 k x.1 x.2 (fun y0 => ret y0)) := fun k => Bld.fresh

/- (*strings.Builder).WriteString -/
noncomputable def f79_I : (List Int) × PV × (List PV) → List SV × Obs := fun x => ([.ptr 2000000 [], .str x.1], [(2000000, .box 97 (.agg 97 [.val 95 x.2.1, .own 36 2000001])), (2000001, .row 5 x.2.2)])
noncomputable def f79_D : List SV → Obs → Option ((List Int) × PV × (List PV))
  | [.ptr 2000000 [], .str s1], [(2000000, .box 97 (.agg 97 [.val 95 p2, .own 36 2000001])), (2000001, .row 5 l3)] => some (s1, p2, l3)
  | _, _ => none
theorem f79_D_ok (args : List SV) (B : Obs) (x : (List Int) × PV × (List PV)) (h : f79_D args B = some x) : f79_I x = (args, B) := by
  unfold f79_D at h
  split at h
  · injection h with h; subst h; rfl
  · cases h
noncomputable def f79_O : Int × PV × (List PV) → Out := (fun y => ([.int .i64 y.1, .val 128 y.2.1], [(2000000, .box 97 (.agg 97 [.ptr 2000000 [], .own 36 2000001])), (2000001, .row 5 y.2.2)]))
noncomputable def f79_un : Out → Option (Int × PV × (List PV))
  | ([.int .i64 y0, .val 128 y1], [(2000000, .box 97 (.agg 97 [.ptr 2000000 [], .own 36 2000001])), (2000001, .row 5 y2)]) => some (y0, y1, y2)
  | _ => none
theorem f79_un_ok (o : Out) (y : Int × PV × (List PV)) (h : f79_un o = some y) : o = f79_O y := by
  unfold f79_un at h
  split at h
  · injection h with h; subst h; rfl
  · cases h
noncomputable def f79_msk : Nat → Option (List Nat) := fun key =>  none
noncomputable def f79_C (c99 : PV → (List PV) → ((List PV) → R) → R) : Oracle := orc 99 f99_D f99_O (fun x ret => c99 x.1 x.2 (fun y0 => ret y0)) <| orc0
noncomputable def f79_E (k : Nat) (c99 : PV → (List PV) → ((List PV) → R) → R) : Env := { P := Try.prog, nilOwn := fun d => false, fldOwn := fun d i => false, ownPar := ownPars, ownRet := false, hpD := fun d => false, hpF := hpFs, hpNew := false, mask := f79_msk, fuel := k, C := f79_C c99 }
noncomputable def f79_code : Code := Try.f79.body.getD .skip
noncomputable def f79_e (c99 : PV → (List PV) → ((List PV) → R) → R) (ret0 : Int → PV → (List PV) → R) (s1 : List Int) (p2 : PV) (l3 : List PV) : R :=
  c99 p2 l3 fun l4 =>
  bif (true && roomy (List.length l4 + List.length (List.map PV.int s1)) 1) then
    ret0 (List.length s1 : Int) PV.nil (l4 ++ (List.map PV.int s1))
  else none

theorem f79_e_mem (k : Nat) (c99 : PV → (List PV) → ((List PV) → R) → R) (retF : Int × PV × (List PV) → R) (s1 : List Int) (p2 : PV) (l3 : List PV) : exec (f79_E k c99) f79_code (endK (f79_E k c99) Try.f79 [2000000, 2000001] f79_un retF) ⟨[.ptr 2000000 [], .str s1, .undef, .undef, .undef, .undef, .undef, .undef, .undef, .undef, .undef, .undef, .undef, .undef, .undef, .undef, .undef, .undef, .undef], [(2000000, .box 97 (.agg 97 [.val 95 p2, .own 36 2000001])), (2000001, .row 5 l3)]⟩ = f79_e c99 (fun y0 y1 y2 => retF (y0, y1, y2)) s1 p2 l3 := by kernel_rfl

noncomputable def f79_N (k : Nat) (c99 : PV → (List PV) → ((List PV) → R) → R) (ret0 : Int → PV → (List PV) → R) (s1 : List Int) (p2 : PV) (l3 : List PV) : R :=
  f79_e c99 ret0 s1 p2 l3
theorem f79_eq (k : Nat) (c99 : PV → (List PV) → ((List PV) → R) → R) (retF : Int × PV × (List PV) → R) (s1 : List Int) (p2 : PV) (l3 : List PV) : exec (f79_E k c99) f79_code (endK (f79_E k c99) Try.f79 [2000000, 2000001] f79_un retF) ⟨[.ptr 2000000 [], .str s1, .undef, .undef, .undef, .undef, .undef, .undef, .undef, .undef, .undef, .undef, .undef, .undef, .undef, .undef, .undef, .undef, .undef], [(2000000, .box 97 (.agg 97 [.val 95 p2, .own 36 2000001])), (2000001, .row 5 l3)]⟩ = f79_N k c99 (fun y0 y1 y2 => retF (y0, y1, y2)) s1 p2 l3 :=
  (f79_e_mem k c99 retF s1 p2 l3)

noncomputable def G79 : Nat → (List Int) → PV → (List PV) → (Int → PV → (List PV) → R) → R
  | 0, _, _, _, _ => none
  | k + 1, s1, p2, l3, ret0 => f79_N k (G99 k) ret0 s1 p2 l3
theorem S79 : ∀ k, Snd Try.prog 79 f79_I f79_O (fun x ret => G79 k x.1 x.2.1 x.2.2 (fun y0 y1 y2 => ret (y0, y1, y2)))
  | 0 => snd_none
  | k + 1 => snd_step (E := f79_E k (G99 k)) rfl laidOut noNums (orc_ok (S99 k).o f99_D_ok orc0_ok) (f := 79) (fn := Try.f79) (code := f79_code) Try.func79 (by kernel_rfl) (drawsOk_of laidOut (orc_ok (S99 k).o f99_D_ok orc0_ok) mixed (by kernel_rfl)) f79_un f79_un_ok [2000000, 2000001] (fun _ => rfl)
      (fun x ret => f79_eq k (G99 k) ret x.1 x.2.1 x.2.2)

/- catchpole/value.Kids -/
noncomputable def f80_I : PV → List SV × Obs := fun x => ([.val 39 x], [])
noncomputable def f80_D : List SV → Obs → Option (PV)
  | [.val 39 p1], [] => some p1
  | _, _ => none
theorem f80_D_ok (args : List SV) (B : Obs) (x : PV) (h : f80_D args B = some x) : f80_I x = (args, B) := by
  unfold f80_D at h
  split at h
  · injection h with h; subst h; rfl
  · cases h
noncomputable def f80_O : PV → Out := (fun y => ([.val 37 y], []))
noncomputable def f80_un : Out → Option (PV)
  | ([.val 37 y0], []) => some y0
  | _ => none
theorem f80_un_ok (o : Out) (y : PV) (h : f80_un o = some y) : o = f80_O y := by
  unfold f80_un at h
  split at h
  · injection h with h; subst h; rfl
  · cases h
noncomputable def f80_msk : Nat → Option (List Nat) := fun key =>  none
noncomputable def f80_C : Oracle := orc0
noncomputable def f80_E (k : Nat) : Env := { P := Try.prog, nilOwn := fun d => false, fldOwn := fun d i => false, ownPar := ownPars, ownRet := false, hpD := fun d => false, hpF := hpFs, hpNew := false, mask := f80_msk, fuel := k, C := f80_C }
noncomputable def f80_code : Code := Try.f80.body.getD .skip
noncomputable def f80_e (ret0 : PV → R) (p1 : PV) : R :=
  bif (decide ((PV.num (PV.fld p1 0)) = (3 : Int))) then
    let n2 : Int := (if (List.length (PV.els (PV.fld p1 2)) : Int) < (2 : Int) then (List.length (PV.els (PV.fld p1 2)) : Int) else 2)
    bif (decide ((0 : Int) ≤ (0 : Int)) && decide ((0 : Int) ≤ n2) && decide (n2 ≤ (List.length (PV.els (PV.fld p1 2)) : Int))) then
      ret0 (PV.list (List.drop ((0 : Int)).toNat (List.take (n2).toNat (PV.els (PV.fld p1 2)))))
    else none
  else bif (decide ((PV.num (PV.fld p1 0)) = (4 : Int))) then
    let n3 : Int := (if (List.length (PV.els (PV.fld p1 2)) : Int) < (1 : Int) then (List.length (PV.els (PV.fld p1 2)) : Int) else 1)
    bif (decide ((0 : Int) ≤ (0 : Int)) && decide ((0 : Int) ≤ n3) && decide (n3 ≤ (List.length (PV.els (PV.fld p1 2)) : Int))) then
      ret0 (PV.list (List.drop ((0 : Int)).toNat (List.take (n3).toNat (PV.els (PV.fld p1 2)))))
    else none
  else bif (decide ((PV.num (PV.fld p1 0)) = (5 : Int))) then
    let n4 : Int := (if (List.length (PV.els (PV.fld p1 2)) : Int) < (1 : Int) then (List.length (PV.els (PV.fld p1 2)) : Int) else 1)
    bif (decide ((0 : Int) ≤ (0 : Int)) && decide ((0 : Int) ≤ n4) && decide (n4 ≤ (List.length (PV.els (PV.fld p1 2)) : Int))) then
      ret0 (PV.list (List.drop ((0 : Int)).toNat (List.take (n4).toNat (PV.els (PV.fld p1 2)))))
    else none
  else bif (decide ((PV.num (PV.fld p1 0)) = (7 : Int))) then
    let n5 : Int := (if (List.length (PV.els (PV.fld p1 2)) : Int) < (1 : Int) then (List.length (PV.els (PV.fld p1 2)) : Int) else 1)
    bif (decide ((0 : Int) ≤ (0 : Int)) && decide ((0 : Int) ≤ n5) && decide (n5 ≤ (List.length (PV.els (PV.fld p1 2)) : Int))) then
      ret0 (PV.list (List.drop ((0 : Int)).toNat (List.take (n5).toNat (PV.els (PV.fld p1 2)))))
    else none
  else bif (decide ((PV.num (PV.fld p1 0)) = (6 : Int))) then
    let n6 : Int := (if (List.length (PV.els (PV.fld p1 2)) : Int) < (List.length (PV.els (PV.fld p1 2)) : Int) then (List.length (PV.els (PV.fld p1 2)) : Int) else (List.length (PV.els (PV.fld p1 2)) : Int))
    bif (decide ((0 : Int) ≤ (0 : Int)) && decide ((0 : Int) ≤ n6) && decide (n6 ≤ (List.length (PV.els (PV.fld p1 2)) : Int))) then
      ret0 (PV.list (List.drop ((0 : Int)).toNat (List.take (n6).toNat (PV.els (PV.fld p1 2)))))
    else none
  else let n7 : Int := (if (List.length (PV.els (PV.fld p1 2)) : Int) < (0 : Int) then (List.length (PV.els (PV.fld p1 2)) : Int) else 0)
  bif (decide ((0 : Int) ≤ (0 : Int)) && decide ((0 : Int) ≤ n7) && decide (n7 ≤ (List.length (PV.els (PV.fld p1 2)) : Int))) then
    ret0 (PV.list (List.drop ((0 : Int)).toNat (List.take (n7).toNat (PV.els (PV.fld p1 2)))))
  else none

theorem f80_e_mem (k : Nat) (retF : PV → R) (p1 : PV) : exec (f80_E k) f80_code (endK (f80_E k) Try.f80 [] f80_un retF) ⟨[.val 39 p1, .undef, .undef, .undef, .undef, .undef, .undef, .undef, .undef, .undef, .undef, .undef, .undef, .undef, .undef, .undef, .undef, .undef, .undef, .undef, .undef, .undef, .undef, .undef, .undef], []⟩ = f80_e (fun y0 => retF y0) p1 := by kernel_rfl

noncomputable def f80_N (k : Nat) (ret0 : PV → R) (p1 : PV) : R :=
  f80_e ret0 p1
theorem f80_eq (k : Nat) (retF : PV → R) (p1 : PV) : exec (f80_E k) f80_code (endK (f80_E k) Try.f80 [] f80_un retF) ⟨[.val 39 p1, .undef, .undef, .undef, .undef, .undef, .undef, .undef, .undef, .undef, .undef, .undef, .undef, .undef, .undef, .undef, .undef, .undef, .undef, .undef, .undef, .undef, .undef, .undef, .undef], []⟩ = f80_N k (fun y0 => retF y0) p1 :=
  (f80_e_mem k retF p1)

noncomputable def G80 : Nat → PV → (PV → R) → R
  | 0, _, _ => none
  | k + 1, p1, ret0 => f80_N k  ret0 p1
theorem S80 : ∀ k, Snd Try.prog 80 f80_I f80_O (fun x ret => G80 k x (fun y0 => ret y0))
  | 0 => snd_none
  | k + 1 => snd_step (E := f80_E k ) rfl laidOut noNums orc0_ok (f := 80) (fn := Try.f80) (code := f80_code) Try.func80 (by kernel_rfl) (drawsOk_of laidOut orc0_ok mixed (by kernel_rfl)) f80_un f80_un_ok [] (fun _ => rfl)
      (fun x ret => f80_eq k  ret x)

/- (*strings.Builder).copyCheck -/
noncomputable def f99v1_I : (List PV) → List SV × Obs := fun x => ([.ptr 2000000 []], [(2000000, .box 97 (.agg 97 [.ptr 2000000 [], .own 36 2000001])), (2000001, .row 5 x)])
noncomputable def f99v1_D : List SV → Obs → Option ((List PV))
  | [.ptr 2000000 []], [(2000000, .box 97 (.agg 97 [.ptr 2000000 [], .own 36 2000001])), (2000001, .row 5 l1)] => some l1
  | _, _ => none
theorem f99v1_D_ok (args : List SV) (B : Obs) (x : (List PV)) (h : f99v1_D args B = some x) : f99v1_I x = (args, B) := by
  unfold f99v1_D at h
  split at h
  · injection h with h; subst h; rfl
  · cases h
noncomputable def f99v1_O : (List PV) → Out := (fun y => ([], [(2000000, .box 97 (.agg 97 [.ptr 2000000 [], .own 36 2000001])), (2000001, .row 5 y)]))
noncomputable def f99v1_un : Out → Option ((List PV))
  | ([], [(2000000, .box 97 (.agg 97 [.ptr 2000000 [], .own 36 2000001])), (2000001, .row 5 y0)]) => some y0
  | _ => none
theorem f99v1_un_ok (o : Out) (y : (List PV)) (h : f99v1_un o = some y) : o = f99v1_O y := by
  unfold f99v1_un at h
  split at h
  · injection h with h; subst h; rfl
  · cases h

noncomputable def G99v1 : Nat → (List PV) → ((List PV) → R) → R
  | _, l, ret0 => ret0 l
theorem S99v1 : ∀ k, SndO Try.prog 99 f99v1_I f99v1_O (fun x ret => G99v1 k x (fun y0 => ret y0)) := fun k => Bld.used

/- (*strings.Builder).WriteString -/
noncomputable def f79v1_I : (List Int) × (List PV) → List SV × Obs := fun x => ([.ptr 2000000 [], .str x.1], [(2000000, .box 97 (.agg 97 [.ptr 2000000 [], .own 36 2000001])), (2000001, .row 5 x.2)])
noncomputable def f79v1_D : List SV → Obs → Option ((List Int) × (List PV))
  | [.ptr 2000000 [], .str s1], [(2000000, .box 97 (.agg 97 [.ptr 2000000 [], .own 36 2000001])), (2000001, .row 5 l2)] => some (s1, l2)
  | _, _ => none
theorem f79v1_D_ok (args : List SV) (B : Obs) (x : (List Int) × (List PV)) (h : f79v1_D args B = some x) : f79v1_I x = (args, B) := by
  unfold f79v1_D at h
  split at h
  · injection h with h; subst h; rfl
  · cases h
noncomputable def f79v1_O : Int × PV × (List PV) → Out := (fun y => ([.int .i64 y.1, .val 128 y.2.1], [(2000000, .box 97 (.agg 97 [.ptr 2000000 [], .own 36 2000001])), (2000001, .row 5 y.2.2)]))
noncomputable def f79v1_un : Out → Option (Int × PV × (List PV))
  | ([.int .i64 y0, .val 128 y1], [(2000000, .box 97 (.agg 97 [.ptr 2000000 [], .own 36 2000001])), (2000001, .row 5 y2)]) => some (y0, y1, y2)
  | _ => none
theorem f79v1_un_ok (o : Out) (y : Int × PV × (List PV)) (h : f79v1_un o = some y) : o = f79v1_O y := by
  unfold f79v1_un at h
  split at h
  · injection h with h; subst h; rfl
  · cases h
noncomputable def f79v1_msk : Nat → Option (List Nat) := fun key =>  none
noncomputable def f79v1_C (c99v1 : (List PV) → ((List PV) → R) → R) : Oracle := orc 99 f99v1_D f99v1_O (fun x ret => c99v1 x (fun y0 => ret y0)) <| orc0
noncomputable def f79v1_E (k : Nat) (c99v1 : (List PV) → ((List PV) → R) → R) : Env := { P := Try.prog, nilOwn := fun d => false, fldOwn := fun d i => false, ownPar := ownPars, ownRet := false, hpD := fun d => false, hpF := hpFs, hpNew := false, mask := f79v1_msk, fuel := k, C := f79v1_C c99v1 }
noncomputable def f79v1_code : Code := Try.f79.body.getD .skip
noncomputable def f79v1_e (c99v1 : (List PV) → ((List PV) → R) → R) (ret0 : Int → PV → (List PV) → R) (s1 : List Int) (l2 : List PV) : R :=
  c99v1 l2 fun l3 =>
  bif (true && roomy (List.length l3 + List.length (List.map PV.int s1)) 1) then
    ret0 (List.length s1 : Int) PV.nil (l3 ++ (List.map PV.int s1))
  else none

theorem f79v1_e_mem (k : Nat) (c99v1 : (List PV) → ((List PV) → R) → R) (retF : Int × PV × (List PV) → R) (s1 : List Int) (l2 : List PV) : exec (f79v1_E k c99v1) f79v1_code (endK (f79v1_E k c99v1) Try.f79 [2000000, 2000001] f79v1_un retF) ⟨[.ptr 2000000 [], .str s1, .undef, .undef, .undef, .undef, .undef, .undef, .undef, .undef, .undef, .undef, .undef, .undef, .undef, .undef, .undef, .undef, .undef], [(2000000, .box 97 (.agg 97 [.ptr 2000000 [], .own 36 2000001])), (2000001, .row 5 l2)]⟩ = f79v1_e c99v1 (fun y0 y1 y2 => retF (y0, y1, y2)) s1 l2 := by kernel_rfl

noncomputable def f79v1_N (k : Nat) (c99v1 : (List PV) → ((List PV) → R) → R) (ret0 : Int → PV → (List PV) → R) (s1 : List Int) (l2 : List PV) : R :=
  f79v1_e c99v1 ret0 s1 l2
theorem f79v1_eq (k : Nat) (c99v1 : (List PV) → ((List PV) → R) → R) (retF : Int × PV × (List PV) → R) (s1 : List Int) (l2 : List PV) : exec (f79v1_E k c99v1) f79v1_code (endK (f79v1_E k c99v1) Try.f79 [2000000, 2000001] f79v1_un retF) ⟨[.ptr 2000000 [], .str s1, .undef, .undef, .undef, .undef, .undef, .undef, .undef, .undef, .undef, .undef, .undef, .undef, .undef, .undef, .undef, .undef, .undef], [(2000000, .box 97 (.agg 97 [.ptr 2000000 [], .own 36 2000001])), (2000001, .row 5 l2)]⟩ = f79v1_N k c99v1 (fun y0 y1 y2 => retF (y0, y1, y2)) s1 l2 :=
  (f79v1_e_mem k c99v1 retF s1 l2)

noncomputable def G79v1 : Nat → (List Int) → (List PV) → (Int → PV → (List PV) → R) → R
  | 0, _, _, _ => none
  | k + 1, s1, l2, ret0 => f79v1_N k (G99v1 k) ret0 s1 l2
theorem S79v1 : ∀ k, Snd Try.prog 79 f79v1_I f79v1_O (fun x ret => G79v1 k x.1 x.2 (fun y0 y1 y2 => ret (y0, y1, y2)))
  | 0 => snd_none
  | k + 1 => snd_step (E := f79v1_E k (G99v1 k)) rfl laidOut noNums (orc_ok (S99v1 k).o f99v1_D_ok orc0_ok) (f := 79) (fn := Try.f79) (code := f79v1_code) Try.func79 (by kernel_rfl) (drawsOk_of laidOut (orc_ok (S99v1 k).o f99v1_D_ok orc0_ok) mixed (by kernel_rfl)) f79v1_un f79v1_un_ok [2000000, 2000001] (fun _ => rfl)
      (fun x ret => f79v1_eq k (G99v1 k) ret x.1 x.2)

end Go.Proofs.Ytmdlhnojpcnnbaa
