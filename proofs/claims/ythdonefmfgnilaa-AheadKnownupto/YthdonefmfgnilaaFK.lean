/- Functions of the program as Lean functions, each tied to the program by the kernel: catchpolelaw21.AheadKnown -/
import Derived.Test.YthdonefmfgnilaaXC
import Derived.Test.YthdonefmfgnilaaProg
import Derived.KernelRfl
set_option linter.unusedVariables false
set_option maxRecDepth 100000
namespace Go.Proofs.Ythdonefmfgnilaa
open Go Go.X
theorem laidOut : laidOutB Try.prog = true := by kernel_rfl
theorem noNums : noNum Try.prog = true := by kernel_rfl
theorem mixed : Try.prog.follows .mixedOrders = true := by kernel_rfl
noncomputable def ownPars : FuncId → Nat → Bool := fun f i => (f == 81 && i == 0)
noncomputable def hpFs : FuncId → Bool := fun f => f == 39 || f == 66

/- catchpole/byteset.Of -/
noncomputable def f33_I : PV → List SV × Obs := fun x => ([.val 28 x], [])
noncomputable def f33_D : List SV → Obs → Option (PV)
  | [.val 28 p1], [] => some p1
  | _, _ => none
theorem f33_D_ok (args : List SV) (B : Obs) (x : PV) (h : f33_D args B = some x) : f33_I x = (args, B) := by
  unfold f33_D at h
  split at h
  · injection h with h; subst h; rfl
  · cases h
noncomputable def f33_O : PV → Out := (fun y => ([.val 24 y], []))
noncomputable def f33_un : Out → Option (PV)
  | ([.val 24 y0], []) => some y0
  | _ => none
theorem f33_un_ok (o : Out) (y : PV) (h : f33_un o = some y) : o = f33_O y := by
  unfold f33_un at h
  split at h
  · injection h with h; subst h; rfl
  · cases h
noncomputable def f33_msk : Nat → Option (List Nat) := fun key => bif key == 9 then some [2, 3, 6, 7, 8] else none
noncomputable def f33_C : Oracle := orc0
noncomputable def f33_E (k : Nat) : Env := { P := Try.prog, nilOwn := fun d => false, fldOwn := fun d i => false, ownPar := ownPars, ownRet := false, hpD := fun d => false, hpF := hpFs, hpNew := false, mask := f33_msk, fuel := k, C := f33_C }
noncomputable def f33_code : Code := Try.f33.body.getD .skip
noncomputable def f33_cw1 : Code := subC f33_code [1, 1, 0, 1, 0, 0]
noncomputable def f33_hw1_0 (p1 : PV) (n5 : Int) (p6 : PV) : St := ⟨[.dead, .dead, .ptr 2 [], .ptr 3 [], .dead, .dead, .val 28 p1, .int .i64 (List.length (PV.els p1) : Int), .int .i64 n5, .dead, .dead, .dead, .dead, .dead, .dead, .dead, .dead, .dead, .dead, .dead, .dead, .dead, .dead], [(2, .box 24 (.val 24 (PV.agg [(PV.int 0), (PV.int 0), (PV.int 0), (PV.int 0)]))), (3, .box 24 (.val 24 p6))]⟩
noncomputable def f33_w1A (k : Nat) (retF : PV → R) (p1 : PV) (n5 : Int) (p6 : PV) : R := loopM (f33_E k) f33_cw1 (kont (f33_E k) f33_code [1, 1, 0, 1, 0] (endK (f33_E k) Try.f33 [] f33_un retF)) k (f33_hw1_0 p1 n5 p6)
noncomputable def f33_w1b0 (ret0 : PV → R) (next_w1_0 : Int → PV → R) (p1 : PV) (n5 : Int) (p6 : PV) : R :=
  bif (decide (n5 < (List.length (PV.els p1) : Int))) then
    bif (true && decide ((0 : Int) ≤ n5) && decide (n5 < (List.length (PV.els p1) : Int))) then
      bif (true && decide ((0 : Int) ≤ (IntKind.wrap .u8 (Int.tdiv (PV.num (List.getD (PV.els p1) (n5).toNat PV.nil)) 64))) && decide ((IntKind.wrap .u8 (Int.tdiv (PV.num (List.getD (PV.els p1) (n5).toNat PV.nil)) 64)) < 4)) then
        let n7 : Int := (PV.num (PV.fld p6 ((IntKind.wrap .u8 (Int.tdiv (PV.num (List.getD (PV.els p1) (n5).toNat PV.nil)) 64))).toNat))
        bif (decide ((0 : Int) ≤ (Int.tmod (PV.num (List.getD (PV.els p1) (n5).toNat PV.nil)) 64))) then
          let n8 : Int := (IntKind.wrap .u64 ((1 : Int) * 2 ^ (min ((Int.tmod (PV.num (List.getD (PV.els p1) (n5).toNat PV.nil)) 64)).toNat 64)))
          bif (true && decide ((0 : Int) ≤ (IntKind.wrap .u8 (Int.tdiv (PV.num (List.getD (PV.els p1) (n5).toNat PV.nil)) 64))) && decide ((IntKind.wrap .u8 (Int.tdiv (PV.num (List.getD (PV.els p1) (n5).toNat PV.nil)) 64)) < 4)) then
            let p9 : PV := (PV.agg (List.set (PV.flds p6) ((IntKind.wrap .u8 (Int.tdiv (PV.num (List.getD (PV.els p1) (n5).toNat PV.nil)) 64))).toNat (PV.int (intBit .or .u64 n7 n8))))
            next_w1_0 (IntKind.wrap .i64 (n5 + (1 : Int))) p9
          else none
        else none
      else none
    else none
  else ret0 p6

theorem f33_w1b0_mem (k : Nat) (retF : PV → R) (NX_w1 : St → R) (p1 : PV) (n5 : Int) (p6 : PV) : exec (f33_E k) f33_cw1 (purgeK (f33_E k) f33_cw1 (loopK NX_w1 (kont (f33_E k) f33_code [1, 1, 0, 1, 0] (endK (f33_E k) Try.f33 [] f33_un retF)))) (f33_hw1_0 p1 n5 p6) = f33_w1b0 (fun y0 => retF y0) (fun n5 p6 => NX_w1 (f33_hw1_0 p1 n5 p6)) p1 n5 p6 := by kernel_rfl

noncomputable def f33_w1b0N (k : Nat) (ret0 : PV → R) (next_w1_0 : Int → PV → R) (p1 : PV) (n5 : Int) (p6 : PV) : R :=
  f33_w1b0 ret0 next_w1_0 p1 n5 p6
theorem f33_w1b0_eq (k : Nat) (retF : PV → R) (NX_w1 : St → R) (p1 : PV) (n5 : Int) (p6 : PV) : exec (f33_E k) f33_cw1 (purgeK (f33_E k) f33_cw1 (loopK NX_w1 (kont (f33_E k) f33_code [1, 1, 0, 1, 0] (endK (f33_E k) Try.f33 [] f33_un retF)))) (f33_hw1_0 p1 n5 p6) = f33_w1b0N k (fun y0 => retF y0) (fun n5 p6 => NX_w1 (f33_hw1_0 p1 n5 p6)) p1 n5 p6 :=
  (f33_w1b0_mem k retF NX_w1 p1 n5 p6)

noncomputable def f33_w1B (k : Nat) (ret0 : PV → R) (p1 : PV) (nx : Int × PV → R) : Int × PV → R := (fun s => f33_w1b0N k ret0 (fun n5 p6 => nx (n5, p6)) p1 s.1 s.2)
noncomputable def f33_w1N (k : Nat) (ret0 : PV → R) (p1 : PV) (n5 : Int) (p6 : PV) : R := loopR (f33_w1B k ret0 p1) k (n5, p6)
theorem f33_w1_eq (k : Nat) (retF : PV → R) (p1 : PV) (n5 : Int) (p6 : PV) : f33_w1A k retF p1 n5 p6 = f33_w1N k (fun y0 => retF y0) p1 n5 p6 :=
  Eq.mp (by kernel_rfl) (loop_sim (E := (f33_E k)) (c := f33_cw1) (K := (kont (f33_E k) f33_code [1, 1, 0, 1, 0] (endK (f33_E k) Try.f33 [] f33_un retF))) (S := Int × PV) (fun s => f33_hw1_0 p1 s.1 s.2) (f33_w1B k (fun y0 => retF y0) p1) (fun NX s => by
    exact Eq.mp (by kernel_rfl) (f33_w1b0_eq k retF NX p1 s.1 s.2)) k (n5, p6))

noncomputable def f33_e (ret0 : PV → R) (w1 : Int → PV → R) (p1 : PV) : R :=
  w1 0 (PV.agg [(PV.int 0), (PV.int 0), (PV.int 0), (PV.int 0)])

theorem f33_e_mem (k : Nat) (retF : PV → R) (p1 : PV) : exec (f33_E k) f33_code (endK (f33_E k) Try.f33 [] f33_un retF) ⟨[.val 28 p1, .undef, .undef, .undef, .undef, .undef, .undef, .undef, .undef, .undef, .undef, .undef, .undef, .undef, .undef, .undef, .undef, .undef, .undef, .undef, .undef, .undef, .undef], []⟩ = f33_e (fun y0 => retF y0) (fun n5 p6 => f33_w1A k retF p1 n5 p6) p1 := by kernel_rfl

noncomputable def f33_N (k : Nat) (ret0 : PV → R) (p1 : PV) : R :=
  f33_e ret0 (fun n5 p6 => f33_w1N k ret0 p1 n5 p6) p1
theorem f33_eq (k : Nat) (retF : PV → R) (p1 : PV) : exec (f33_E k) f33_code (endK (f33_E k) Try.f33 [] f33_un retF) ⟨[.val 28 p1, .undef, .undef, .undef, .undef, .undef, .undef, .undef, .undef, .undef, .undef, .undef, .undef, .undef, .undef, .undef, .undef, .undef, .undef, .undef, .undef, .undef, .undef], []⟩ = f33_N k (fun y0 => retF y0) p1 :=
  (f33_e_mem k retF p1).trans (by rw [show (fun n5 p6 => f33_w1A k retF p1 n5 p6) = (fun n5 p6 => f33_w1N k (fun y0 => retF y0) p1 n5 p6) from funext fun n5 => funext fun p6 => f33_w1_eq k retF p1 n5 p6]; rfl)

noncomputable def G33 : Nat → PV → (PV → R) → R
  | 0, _, _ => none
  | k + 1, p1, ret0 => f33_N k  ret0 p1
theorem S33 : ∀ k, Snd Try.prog 33 f33_I f33_O (fun x ret => G33 k x (fun y0 => ret y0))
  | 0 => snd_none
  | k + 1 => snd_step (E := f33_E k ) rfl laidOut noNums orc0_ok (f := 33) (fn := Try.f33) (code := f33_code) Try.func33 (by kernel_rfl) (drawsOk_of laidOut orc0_ok mixed (by kernel_rfl)) f33_un f33_un_ok [] (fun _ => rfl)
      (fun x ret => f33_eq k  ret x)

/- catchpole/catchpolelaw21.ch -/
noncomputable def f38_I : PV → List SV × Obs := fun x => ([.val 28 x], [])
noncomputable def f38_D : List SV → Obs → Option (PV)
  | [.val 28 p1], [] => some p1
  | _, _ => none
theorem f38_D_ok (args : List SV) (B : Obs) (x : PV) (h : f38_D args B = some x) : f38_I x = (args, B) := by
  unfold f38_D at h
  split at h
  · injection h with h; subst h; rfl
  · cases h
noncomputable def f38_O : PV → Out := (fun y => ([.val 27 y], []))
noncomputable def f38_un : Out → Option (PV)
  | ([.val 27 y0], []) => some y0
  | _ => none
theorem f38_un_ok (o : Out) (y : PV) (h : f38_un o = some y) : o = f38_O y := by
  unfold f38_un at h
  split at h
  · injection h with h; subst h; rfl
  · cases h
noncomputable def f38_msk : Nat → Option (List Nat) := fun key =>  none
noncomputable def f38_C (c33 : PV → (PV → R) → R) : Oracle := orc 33 f33_D f33_O (fun x ret => c33 x (fun y0 => ret y0)) <| orc0
noncomputable def f38_E (k : Nat) (c33 : PV → (PV → R) → R) : Env := { P := Try.prog, nilOwn := fun d => false, fldOwn := fun d i => false, ownPar := ownPars, ownRet := false, hpD := fun d => false, hpF := hpFs, hpNew := false, mask := f38_msk, fuel := k, C := f38_C c33 }
noncomputable def f38_code : Code := Try.f38.body.getD .skip
noncomputable def f38_e (c33 : PV → (PV → R) → R) (ret0 : PV → R) (p1 : PV) : R :=
  c33 p1 fun p2 =>
  ret0 (PV.agg [(PV.int 2), p2, (PV.int 0), (PV.list [])])

theorem f38_e_mem (k : Nat) (c33 : PV → (PV → R) → R) (retF : PV → R) (p1 : PV) : exec (f38_E k c33) f38_code (endK (f38_E k c33) Try.f38 [] f38_un retF) ⟨[.val 28 p1, .undef, .undef, .undef, .undef, .undef], []⟩ = f38_e c33 (fun y0 => retF y0) p1 := by kernel_rfl

noncomputable def f38_N (k : Nat) (c33 : PV → (PV → R) → R) (ret0 : PV → R) (p1 : PV) : R :=
  f38_e c33 ret0 p1
theorem f38_eq (k : Nat) (c33 : PV → (PV → R) → R) (retF : PV → R) (p1 : PV) : exec (f38_E k c33) f38_code (endK (f38_E k c33) Try.f38 [] f38_un retF) ⟨[.val 28 p1, .undef, .undef, .undef, .undef, .undef], []⟩ = f38_N k c33 (fun y0 => retF y0) p1 :=
  (f38_e_mem k c33 retF p1)

noncomputable def G38 : Nat → PV → (PV → R) → R
  | 0, _, _ => none
  | k + 1, p1, ret0 => f38_N k (G33 k) ret0 p1
theorem S38 : ∀ k, Snd Try.prog 38 f38_I f38_O (fun x ret => G38 k x (fun y0 => ret y0))
  | 0 => snd_none
  | k + 1 => snd_step (E := f38_E k (G33 k)) rfl laidOut noNums (orc_ok (S33 k).o f33_D_ok orc0_ok) (f := 38) (fn := Try.f38) (code := f38_code) Try.func38 (by kernel_rfl) (drawsOk_of laidOut (orc_ok (S33 k).o f33_D_ok orc0_ok) mixed (by kernel_rfl)) f38_un f38_un_ok [] (fun _ => rfl)
      (fun x ret => f38_eq k (G33 k) ret x)

/- catchpole/catchpolelaw21.seq -/
noncomputable def f36_I : PV × PV → List SV × Obs := fun x => ([.val 27 x.1, .val 27 x.2], [])
noncomputable def f36_D : List SV → Obs → Option (PV × PV)
  | [.val 27 p1, .val 27 p2], [] => some (p1, p2)
  | _, _ => none
theorem f36_D_ok (args : List SV) (B : Obs) (x : PV × PV) (h : f36_D args B = some x) : f36_I x = (args, B) := by
  unfold f36_D at h
  split at h
  · injection h with h; subst h; rfl
  · cases h
noncomputable def f36_O : PV → Out := (fun y => ([.val 27 y], []))
noncomputable def f36_un : Out → Option (PV)
  | ([.val 27 y0], []) => some y0
  | _ => none
theorem f36_un_ok (o : Out) (y : PV) (h : f36_un o = some y) : o = f36_O y := by
  unfold f36_un at h
  split at h
  · injection h with h; subst h; rfl
  · cases h
noncomputable def f36_msk : Nat → Option (List Nat) := fun key =>  none
noncomputable def f36_C : Oracle := orc0
noncomputable def f36_E (k : Nat) : Env := { P := Try.prog, nilOwn := fun d => false, fldOwn := fun d i => false, ownPar := ownPars, ownRet := false, hpD := fun d => false, hpF := hpFs, hpNew := false, mask := f36_msk, fuel := k, C := f36_C }
noncomputable def f36_code : Code := Try.f36.body.getD .skip
noncomputable def f36_e (ret0 : PV → R) (p1 : PV) (p2 : PV) : R :=
  ret0 (PV.agg [(PV.int 3), (PV.agg [(PV.int 0), (PV.int 0), (PV.int 0), (PV.int 0)]), (PV.int 0), (PV.list [p1, p2])])

theorem f36_e_mem (k : Nat) (retF : PV → R) (p1 : PV) (p2 : PV) : exec (f36_E k) f36_code (endK (f36_E k) Try.f36 [] f36_un retF) ⟨[.val 27 p1, .val 27 p2, .undef, .undef, .undef, .undef, .undef, .undef, .undef], []⟩ = f36_e (fun y0 => retF y0) p1 p2 := by kernel_rfl

noncomputable def f36_N (k : Nat) (ret0 : PV → R) (p1 : PV) (p2 : PV) : R :=
  f36_e ret0 p1 p2
theorem f36_eq (k : Nat) (retF : PV → R) (p1 : PV) (p2 : PV) : exec (f36_E k) f36_code (endK (f36_E k) Try.f36 [] f36_un retF) ⟨[.val 27 p1, .val 27 p2, .undef, .undef, .undef, .undef, .undef, .undef, .undef], []⟩ = f36_N k (fun y0 => retF y0) p1 p2 :=
  (f36_e_mem k retF p1 p2)

noncomputable def G36 : Nat → PV → PV → (PV → R) → R
  | 0, _, _, _ => none
  | k + 1, p1, p2, ret0 => f36_N k  ret0 p1 p2
theorem S36 : ∀ k, Snd Try.prog 36 f36_I f36_O (fun x ret => G36 k x.1 x.2 (fun y0 => ret y0))
  | 0 => snd_none
  | k + 1 => snd_step (E := f36_E k ) rfl laidOut noNums orc0_ok (f := 36) (fn := Try.f36) (code := f36_code) Try.func36 (by kernel_rfl) (drawsOk_of laidOut orc0_ok mixed (by kernel_rfl)) f36_un f36_un_ok [] (fun _ => rfl)
      (fun x ret => f36_eq k  ret x.1 x.2)

/- catchpole/core.Size -/
noncomputable def f16_I : PV → List SV × Obs := fun x => ([.val 27 x], [])
noncomputable def f16_D : List SV → Obs → Option (PV)
  | [.val 27 p1], [] => some p1
  | _, _ => none
theorem f16_D_ok (args : List SV) (B : Obs) (x : PV) (h : f16_D args B = some x) : f16_I x = (args, B) := by
  unfold f16_D at h
  split at h
  · injection h with h; subst h; rfl
  · cases h
noncomputable def f16_O : Int → Out := (fun y => ([.int .i64 y], []))
noncomputable def f16_un : Out → Option (Int)
  | ([.int .i64 y0], []) => some y0
  | _ => none
theorem f16_un_ok (o : Out) (y : Int) (h : f16_un o = some y) : o = f16_O y := by
  unfold f16_un at h
  split at h
  · injection h with h; subst h; rfl
  · cases h
noncomputable def f16_msk : Nat → Option (List Nat) := fun key => bif key == 9 then some [3, 7, 8, 9] else none
noncomputable def f16_C (c16 : PV → (Int → R) → R) : Oracle := orc 16 f16_D f16_O (fun x ret => c16 x (fun y0 => ret y0)) <| orc0
noncomputable def f16_E (k : Nat) (c16 : PV → (Int → R) → R) : Env := { P := Try.prog, nilOwn := fun d => false, fldOwn := fun d i => false, ownPar := ownPars, ownRet := false, hpD := fun d => false, hpF := hpFs, hpNew := false, mask := f16_msk, fuel := k, C := f16_C c16 }
noncomputable def f16_code : Code := Try.f16.body.getD .skip
noncomputable def f16_cw1 : Code := subC f16_code [1, 1, 0, 1, 0, 0]
noncomputable def f16_hw1_0 (p1 : PV) (n3 : Int) (n4 : Int) : St := ⟨[.dead, .dead, .dead, .int .i64 n3, .dead, .dead, .dead, .val 25 (PV.fld p1 3), .int .i64 (List.length (PV.els (PV.fld p1 3)) : Int), .int .i64 n4, .dead, .dead, .dead, .dead, .dead, .dead, .dead, .dead, .dead, .dead, .dead, .dead], []⟩
noncomputable def f16_w1A (k : Nat) (c16 : PV → (Int → R) → R) (retF : Int → R) (p1 : PV) (n3 : Int) (n4 : Int) : R := loopM (f16_E k c16) f16_cw1 (kont (f16_E k c16) f16_code [1, 1, 0, 1, 0] (endK (f16_E k c16) Try.f16 [] f16_un retF)) k (f16_hw1_0 p1 n3 n4)
noncomputable def f16_w1b0 (c16 : PV → (Int → R) → R) (ret0 : Int → R) (next_w1_0 : Int → Int → R) (p1 : PV) (n3 : Int) (n4 : Int) : R :=
  bif (decide (n4 < (List.length (PV.els (PV.fld p1 3)) : Int))) then
    bif (true && decide ((0 : Int) ≤ n4) && decide (n4 < (List.length (PV.els (PV.fld p1 3)) : Int))) then
      bif (decide ((100000 : Int) ≤ n3)) then
        ret0 (if (100000 : Int) < n3 then 100000 else n3)
      else c16 (List.getD (PV.els (PV.fld p1 3)) (n4).toNat PV.nil) fun n5 =>
      next_w1_0 (IntKind.wrap .i64 (n3 + n5)) (IntKind.wrap .i64 (n4 + (1 : Int)))
    else none
  else ret0 (if (100000 : Int) < n3 then 100000 else n3)

theorem f16_w1b0_mem (k : Nat) (c16 : PV → (Int → R) → R) (retF : Int → R) (NX_w1 : St → R) (p1 : PV) (n3 : Int) (n4 : Int) : exec (f16_E k c16) f16_cw1 (purgeK (f16_E k c16) f16_cw1 (loopK NX_w1 (kont (f16_E k c16) f16_code [1, 1, 0, 1, 0] (endK (f16_E k c16) Try.f16 [] f16_un retF)))) (f16_hw1_0 p1 n3 n4) = f16_w1b0 c16 (fun y0 => retF y0) (fun n3 n4 => NX_w1 (f16_hw1_0 p1 n3 n4)) p1 n3 n4 := by kernel_rfl

noncomputable def f16_w1b0N (k : Nat) (c16 : PV → (Int → R) → R) (ret0 : Int → R) (next_w1_0 : Int → Int → R) (p1 : PV) (n3 : Int) (n4 : Int) : R :=
  f16_w1b0 c16 ret0 next_w1_0 p1 n3 n4
theorem f16_w1b0_eq (k : Nat) (c16 : PV → (Int → R) → R) (retF : Int → R) (NX_w1 : St → R) (p1 : PV) (n3 : Int) (n4 : Int) : exec (f16_E k c16) f16_cw1 (purgeK (f16_E k c16) f16_cw1 (loopK NX_w1 (kont (f16_E k c16) f16_code [1, 1, 0, 1, 0] (endK (f16_E k c16) Try.f16 [] f16_un retF)))) (f16_hw1_0 p1 n3 n4) = f16_w1b0N k c16 (fun y0 => retF y0) (fun n3 n4 => NX_w1 (f16_hw1_0 p1 n3 n4)) p1 n3 n4 :=
  (f16_w1b0_mem k c16 retF NX_w1 p1 n3 n4)

noncomputable def f16_w1B (k : Nat) (c16 : PV → (Int → R) → R) (ret0 : Int → R) (p1 : PV) (nx : Int × Int → R) : Int × Int → R := (fun s => f16_w1b0N k c16 ret0 (fun n3 n4 => nx (n3, n4)) p1 s.1 s.2)
noncomputable def f16_w1N (k : Nat) (c16 : PV → (Int → R) → R) (ret0 : Int → R) (p1 : PV) (n3 : Int) (n4 : Int) : R := loopR (f16_w1B k c16 ret0 p1) k (n3, n4)
theorem f16_w1_eq (k : Nat) (c16 : PV → (Int → R) → R) (retF : Int → R) (p1 : PV) (n3 : Int) (n4 : Int) : f16_w1A k c16 retF p1 n3 n4 = f16_w1N k c16 (fun y0 => retF y0) p1 n3 n4 :=
  Eq.mp (by kernel_rfl) (loop_sim (E := (f16_E k c16)) (c := f16_cw1) (K := (kont (f16_E k c16) f16_code [1, 1, 0, 1, 0] (endK (f16_E k c16) Try.f16 [] f16_un retF))) (S := Int × Int) (fun s => f16_hw1_0 p1 s.1 s.2) (f16_w1B k c16 (fun y0 => retF y0) p1) (fun NX s => by
    exact Eq.mp (by kernel_rfl) (f16_w1b0_eq k c16 retF NX p1 s.1 s.2)) k (n3, n4))

noncomputable def f16_e (c16 : PV → (Int → R) → R) (ret0 : Int → R) (w1 : Int → Int → R) (p1 : PV) : R :=
  w1 1 0

theorem f16_e_mem (k : Nat) (c16 : PV → (Int → R) → R) (retF : Int → R) (p1 : PV) : exec (f16_E k c16) f16_code (endK (f16_E k c16) Try.f16 [] f16_un retF) ⟨[.val 27 p1, .undef, .undef, .undef, .undef, .undef, .undef, .undef, .undef, .undef, .undef, .undef, .undef, .undef, .undef, .undef, .undef, .undef, .undef, .undef, .undef, .undef], []⟩ = f16_e c16 (fun y0 => retF y0) (fun n3 n4 => f16_w1A k c16 retF p1 n3 n4) p1 := by kernel_rfl

noncomputable def f16_N (k : Nat) (c16 : PV → (Int → R) → R) (ret0 : Int → R) (p1 : PV) : R :=
  f16_e c16 ret0 (fun n3 n4 => f16_w1N k c16 ret0 p1 n3 n4) p1
theorem f16_eq (k : Nat) (c16 : PV → (Int → R) → R) (retF : Int → R) (p1 : PV) : exec (f16_E k c16) f16_code (endK (f16_E k c16) Try.f16 [] f16_un retF) ⟨[.val 27 p1, .undef, .undef, .undef, .undef, .undef, .undef, .undef, .undef, .undef, .undef, .undef, .undef, .undef, .undef, .undef, .undef, .undef, .undef, .undef, .undef, .undef], []⟩ = f16_N k c16 (fun y0 => retF y0) p1 :=
  (f16_e_mem k c16 retF p1).trans (by rw [show (fun n3 n4 => f16_w1A k c16 retF p1 n3 n4) = (fun n3 n4 => f16_w1N k c16 (fun y0 => retF y0) p1 n3 n4) from funext fun n3 => funext fun n4 => f16_w1_eq k c16 retF p1 n3 n4]; rfl)

noncomputable def G16 : Nat → PV → (Int → R) → R
  | 0, _, _ => none
  | k + 1, p1, ret0 => f16_N k (G16 k) ret0 p1
theorem S16 : ∀ k, Snd Try.prog 16 f16_I f16_O (fun x ret => G16 k x (fun y0 => ret y0))
  | 0 => snd_none
  | k + 1 => snd_step (E := f16_E k (G16 k)) rfl laidOut noNums (orc_ok (S16 k).o f16_D_ok orc0_ok) (f := 16) (fn := Try.f16) (code := f16_code) Try.func16 (by kernel_rfl) (drawsOk_of laidOut (orc_ok (S16 k).o f16_D_ok orc0_ok) mixed (by kernel_rfl)) f16_un f16_un_ok [] (fun _ => rfl)
      (fun x ret => f16_eq k (G16 k) ret x)

/- catchpole/core.kids -/
noncomputable def f89_I : Int → List SV × Obs := fun x => ([.int .i64 x], [])
noncomputable def f89_D : List SV → Obs → Option (Int)
  | [.int .i64 n1], [] => some n1
  | _, _ => none
theorem f89_D_ok (args : List SV) (B : Obs) (x : Int) (h : f89_D args B = some x) : f89_I x = (args, B) := by
  unfold f89_D at h
  split at h
  · injection h with h; subst h; rfl
  · cases h
noncomputable def f89_O : Int → Out := (fun y => ([.int .i64 y], []))
noncomputable def f89_un : Out → Option (Int)
  | ([.int .i64 y0], []) => some y0
  | _ => none
theorem f89_un_ok (o : Out) (y : Int) (h : f89_un o = some y) : o = f89_O y := by
  unfold f89_un at h
  split at h
  · injection h with h; subst h; rfl
  · cases h
noncomputable def f89_msk : Nat → Option (List Nat) := fun key =>  none
noncomputable def f89_C : Oracle := orc0
noncomputable def f89_E (k : Nat) : Env := { P := Try.prog, nilOwn := fun d => false, fldOwn := fun d i => false, ownPar := ownPars, ownRet := false, hpD := fun d => false, hpF := hpFs, hpNew := false, mask := f89_msk, fuel := k, C := f89_C }
noncomputable def f89_code : Code := Try.f89.body.getD .skip
noncomputable def f89_e (ret0 : Int → R) (n1 : Int) : R :=
  bif (decide (n1 = (0 : Int))) then
    ret0 0
  else bif (decide (n1 = (1 : Int))) then
    ret0 0
  else bif (decide (n1 = (2 : Int))) then
    ret0 0
  else bif (decide (n1 = (3 : Int))) then
    ret0 2
  else bif (decide (n1 = (4 : Int))) then
    ret0 2
  else bif (decide (n1 = (5 : Int))) then
    ret0 1
  else bif (decide (n1 = (6 : Int))) then
    ret0 1
  else bif (decide (n1 = (7 : Int))) then
    ret0 1
  else ret0 (-1)

theorem f89_e_mem (k : Nat) (retF : Int → R) (n1 : Int) : exec (f89_E k) f89_code (endK (f89_E k) Try.f89 [] f89_un retF) ⟨[.int .i64 n1, .undef, .undef, .undef, .undef, .undef, .undef, .undef, .undef, .undef, .undef, .undef, .undef, .undef, .undef], []⟩ = f89_e (fun y0 => retF y0) n1 := by kernel_rfl

noncomputable def f89_N (k : Nat) (ret0 : Int → R) (n1 : Int) : R :=
  f89_e ret0 n1
theorem f89_eq (k : Nat) (retF : Int → R) (n1 : Int) : exec (f89_E k) f89_code (endK (f89_E k) Try.f89 [] f89_un retF) ⟨[.int .i64 n1, .undef, .undef, .undef, .undef, .undef, .undef, .undef, .undef, .undef, .undef, .undef, .undef, .undef, .undef], []⟩ = f89_N k (fun y0 => retF y0) n1 :=
  (f89_e_mem k retF n1)

noncomputable def G89 : Nat → Int → (Int → R) → R
  | 0, _, _ => none
  | k + 1, n1, ret0 => f89_N k  ret0 n1
theorem S89 : ∀ k, Snd Try.prog 89 f89_I f89_O (fun x ret => G89 k x (fun y0 => ret y0))
  | 0 => snd_none
  | k + 1 => snd_step (E := f89_E k ) rfl laidOut noNums orc0_ok (f := 89) (fn := Try.f89) (code := f89_code) Try.func89 (by kernel_rfl) (drawsOk_of laidOut orc0_ok mixed (by kernel_rfl)) f89_un f89_un_ok [] (fun _ => rfl)
      (fun x ret => f89_eq k  ret x)

/- catchpole/core.good$1 -/
noncomputable def f91_I : PV × Int → List SV × Obs := fun x => ([.val 27 x.1, .ptr 4000000 []], [(4000000, .box 3 (.int .i64 x.2))])
noncomputable def f91_D : List SV → Obs → Option (PV × Int)
  | [.val 27 p1, .ptr 4000000 []], [(4000000, .box 3 (.int .i64 n2))] => some (p1, n2)
  | _, _ => none
theorem f91_D_ok (args : List SV) (B : Obs) (x : PV × Int) (h : f91_D args B = some x) : f91_I x = (args, B) := by
  unfold f91_D at h
  split at h
  · injection h with h; subst h; rfl
  · cases h
noncomputable def f91_O : Bool × Int → Out := (fun y => ([.bool y.1], [(4000000, .box 3 (.int .i64 y.2))]))
noncomputable def f91_un : Out → Option (Bool × Int)
  | ([.bool y0], [(4000000, .box 3 (.int .i64 y1))]) => some (y0, y1)
  | _ => none
theorem f91_un_ok (o : Out) (y : Bool × Int) (h : f91_un o = some y) : o = f91_O y := by
  unfold f91_un at h
  split at h
  · injection h with h; subst h; rfl
  · cases h
/- slices.IndexFunc[[]catchpole/core.Core,catchpole/core.Core] -/
noncomputable def f112_I : PV × Int → List SV × Obs := fun x => ([.val 25 x.1, .fn 91 [.ptr 4001000 []]], [(4001000, .box 3 (.int .i64 x.2))])
noncomputable def f112_D : List SV → Obs → Option (PV × Int)
  | [.val 25 p1, .fn 91 [.ptr 4001000 []]], [(4001000, .box 3 (.int .i64 n2))] => some (p1, n2)
  | _, _ => none
theorem f112_D_ok (args : List SV) (B : Obs) (x : PV × Int) (h : f112_D args B = some x) : f112_I x = (args, B) := by
  unfold f112_D at h
  split at h
  · injection h with h; subst h; rfl
  · cases h
noncomputable def f112_O : Int × Int → Out := (fun y => ([.int .i64 y.1], [(4001000, .box 3 (.int .i64 y.2))]))
noncomputable def f112_un : Out → Option (Int × Int)
  | ([.int .i64 y0], [(4001000, .box 3 (.int .i64 y1))]) => some (y0, y1)
  | _ => none
theorem f112_un_ok (o : Out) (y : Int × Int) (h : f112_un o = some y) : o = f112_O y := by
  unfold f112_un at h
  split at h
  · injection h with h; subst h; rfl
  · cases h
/- slices.ContainsFunc[[]catchpole/core.Core,catchpole/core.Core] -/
noncomputable def f90_I : PV × Int → List SV × Obs := fun x => ([.val 25 x.1, .fn 91 [.ptr 4001000 []]], [(4001000, .box 3 (.int .i64 x.2))])
noncomputable def f90_D : List SV → Obs → Option (PV × Int)
  | [.val 25 p1, .fn 91 [.ptr 4001000 []]], [(4001000, .box 3 (.int .i64 n2))] => some (p1, n2)
  | _, _ => none
theorem f90_D_ok (args : List SV) (B : Obs) (x : PV × Int) (h : f90_D args B = some x) : f90_I x = (args, B) := by
  unfold f90_D at h
  split at h
  · injection h with h; subst h; rfl
  · cases h
noncomputable def f90_O : Bool × Int → Out := (fun y => ([.bool y.1], [(4001000, .box 3 (.int .i64 y.2))]))
noncomputable def f90_un : Out → Option (Bool × Int)
  | ([.bool y0], [(4001000, .box 3 (.int .i64 y1))]) => some (y0, y1)
  | _ => none
theorem f90_un_ok (o : Out) (y : Bool × Int) (h : f90_un o = some y) : o = f90_O y := by
  unfold f90_un at h
  split at h
  · injection h with h; subst h; rfl
  · cases h
/- catchpole/core.good -/
noncomputable def f60_I : PV × Int → List SV × Obs := fun x => ([.val 27 x.1, .int .i64 x.2], [])
noncomputable def f60_D : List SV → Obs → Option (PV × Int)
  | [.val 27 p1, .int .i64 n2], [] => some (p1, n2)
  | _, _ => none
theorem f60_D_ok (args : List SV) (B : Obs) (x : PV × Int) (h : f60_D args B = some x) : f60_I x = (args, B) := by
  unfold f60_D at h
  split at h
  · injection h with h; subst h; rfl
  · cases h
noncomputable def f60_O : Bool → Out := (fun y => ([.bool y], []))
noncomputable def f60_un : Out → Option (Bool)
  | ([.bool y0], []) => some y0
  | _ => none
theorem f60_un_ok (o : Out) (y : Bool) (h : f60_un o = some y) : o = f60_O y := by
  unfold f60_un at h
  split at h
  · injection h with h; subst h; rfl
  · cases h
noncomputable def f91_msk : Nat → Option (List Nat) := fun key =>  none
noncomputable def f91_C (c60 : PV → Int → (Bool → R) → R) : Oracle := orc 60 f60_D f60_O (fun x ret => c60 x.1 x.2 (fun y0 => ret y0)) <| orc0
noncomputable def f91_E (k : Nat) (c60 : PV → Int → (Bool → R) → R) : Env := { P := Try.prog, nilOwn := fun d => false, fldOwn := fun d i => false, ownPar := ownPars, ownRet := false, hpD := fun d => false, hpF := hpFs, hpNew := false, mask := f91_msk, fuel := k, C := f91_C c60 }
noncomputable def f91_code : Code := Try.f91.body.getD .skip
noncomputable def f91_e (c60 : PV → Int → (Bool → R) → R) (ret0 : Bool → Int → R) (p1 : PV) (n2 : Int) : R :=
  c60 p1 (IntKind.wrap .i64 (n2 - (1 : Int))) fun b3 =>
  ret0 (!b3) n2

theorem f91_e_mem (k : Nat) (c60 : PV → Int → (Bool → R) → R) (retF : Bool × Int → R) (p1 : PV) (n2 : Int) : exec (f91_E k c60) f91_code (endK (f91_E k c60) Try.f91 [4000000] f91_un retF) ⟨[.val 27 p1, .ptr 4000000 [], .undef, .undef, .undef, .undef, .undef, .undef, .undef], [(4000000, .box 3 (.int .i64 n2))]⟩ = f91_e c60 (fun y0 y1 => retF (y0, y1)) p1 n2 := by kernel_rfl

noncomputable def f91_N (k : Nat) (c60 : PV → Int → (Bool → R) → R) (ret0 : Bool → Int → R) (p1 : PV) (n2 : Int) : R :=
  f91_e c60 ret0 p1 n2
theorem f91_eq (k : Nat) (c60 : PV → Int → (Bool → R) → R) (retF : Bool × Int → R) (p1 : PV) (n2 : Int) : exec (f91_E k c60) f91_code (endK (f91_E k c60) Try.f91 [4000000] f91_un retF) ⟨[.val 27 p1, .ptr 4000000 [], .undef, .undef, .undef, .undef, .undef, .undef, .undef], [(4000000, .box 3 (.int .i64 n2))]⟩ = f91_N k c60 (fun y0 y1 => retF (y0, y1)) p1 n2 :=
  (f91_e_mem k c60 retF p1 n2)

noncomputable def f112_msk : Nat → Option (List Nat) := fun key => bif key == 6 then some [0, 1, 7, 8] else none
noncomputable def f112_C (c91 : PV → Int → (Bool → Int → R) → R) : Oracle := orc 91 f91_D f91_O (fun x ret => c91 x.1 x.2 (fun y0 y1 => ret (y0, y1))) <| orc0
noncomputable def f112_E (k : Nat) (c91 : PV → Int → (Bool → Int → R) → R) : Env := { P := Try.prog, nilOwn := fun d => false, fldOwn := fun d i => false, ownPar := ownPars, ownRet := false, hpD := fun d => false, hpF := hpFs, hpNew := false, mask := f112_msk, fuel := k, C := f112_C c91 }
noncomputable def f112_code : Code := Try.f112.body.getD .skip
noncomputable def f112_cw1 : Code := subC f112_code [1, 0, 1, 0, 0]
noncomputable def f112_hw1_0 (p1 : PV) (n5 : Int) (n6 : Int) : St := ⟨[.val 25 p1, .fn 91 [.ptr 4001000 []], .dead, .dead, .dead, .dead, .dead, .int .i64 (List.length (PV.els p1) : Int), .int .i64 n5, .dead, .dead, .dead, .dead, .dead, .dead, .dead, .dead, .dead, .dead], [(4001000, .box 3 (.int .i64 n6))]⟩
noncomputable def f112_w1A (k : Nat) (c91 : PV → Int → (Bool → Int → R) → R) (retF : Int × Int → R) (p1 : PV) (n5 : Int) (n6 : Int) : R := loopM (f112_E k c91) f112_cw1 (kont (f112_E k c91) f112_code [1, 0, 1, 0] (endK (f112_E k c91) Try.f112 [4001000] f112_un retF)) k (f112_hw1_0 p1 n5 n6)
noncomputable def f112_w1b0 (c91 : PV → Int → (Bool → Int → R) → R) (ret0 : Int → Int → R) (next_w1_0 : Int → Int → R) (p1 : PV) (n5 : Int) (n6 : Int) : R :=
  bif (decide (n5 < (List.length (PV.els p1) : Int))) then
    bif (true && decide ((0 : Int) ≤ n5) && decide (n5 < (List.length (PV.els p1) : Int))) then
      c91 (List.getD (PV.els p1) (n5).toNat PV.nil) n6 fun b7 n8 =>
      bif b7 then
        ret0 n5 n8
      else next_w1_0 (IntKind.wrap .i64 (n5 + (1 : Int))) n8
    else none
  else ret0 (-1) n6

theorem f112_w1b0_mem (k : Nat) (c91 : PV → Int → (Bool → Int → R) → R) (retF : Int × Int → R) (NX_w1 : St → R) (p1 : PV) (n5 : Int) (n6 : Int) : exec (f112_E k c91) f112_cw1 (purgeK (f112_E k c91) f112_cw1 (loopK NX_w1 (kont (f112_E k c91) f112_code [1, 0, 1, 0] (endK (f112_E k c91) Try.f112 [4001000] f112_un retF)))) (f112_hw1_0 p1 n5 n6) = f112_w1b0 c91 (fun y0 y1 => retF (y0, y1)) (fun n5 n6 => NX_w1 (f112_hw1_0 p1 n5 n6)) p1 n5 n6 := by kernel_rfl

noncomputable def f112_w1b0N (k : Nat) (c91 : PV → Int → (Bool → Int → R) → R) (ret0 : Int → Int → R) (next_w1_0 : Int → Int → R) (p1 : PV) (n5 : Int) (n6 : Int) : R :=
  f112_w1b0 c91 ret0 next_w1_0 p1 n5 n6
theorem f112_w1b0_eq (k : Nat) (c91 : PV → Int → (Bool → Int → R) → R) (retF : Int × Int → R) (NX_w1 : St → R) (p1 : PV) (n5 : Int) (n6 : Int) : exec (f112_E k c91) f112_cw1 (purgeK (f112_E k c91) f112_cw1 (loopK NX_w1 (kont (f112_E k c91) f112_code [1, 0, 1, 0] (endK (f112_E k c91) Try.f112 [4001000] f112_un retF)))) (f112_hw1_0 p1 n5 n6) = f112_w1b0N k c91 (fun y0 y1 => retF (y0, y1)) (fun n5 n6 => NX_w1 (f112_hw1_0 p1 n5 n6)) p1 n5 n6 :=
  (f112_w1b0_mem k c91 retF NX_w1 p1 n5 n6)

noncomputable def f112_w1B (k : Nat) (c91 : PV → Int → (Bool → Int → R) → R) (ret0 : Int → Int → R) (p1 : PV) (nx : Int × Int → R) : Int × Int → R := (fun s => f112_w1b0N k c91 ret0 (fun n5 n6 => nx (n5, n6)) p1 s.1 s.2)
noncomputable def f112_w1N (k : Nat) (c91 : PV → Int → (Bool → Int → R) → R) (ret0 : Int → Int → R) (p1 : PV) (n5 : Int) (n6 : Int) : R := loopR (f112_w1B k c91 ret0 p1) k (n5, n6)
theorem f112_w1_eq (k : Nat) (c91 : PV → Int → (Bool → Int → R) → R) (retF : Int × Int → R) (p1 : PV) (n5 : Int) (n6 : Int) : f112_w1A k c91 retF p1 n5 n6 = f112_w1N k c91 (fun y0 y1 => retF (y0, y1)) p1 n5 n6 :=
  Eq.mp (by kernel_rfl) (loop_sim (E := (f112_E k c91)) (c := f112_cw1) (K := (kont (f112_E k c91) f112_code [1, 0, 1, 0] (endK (f112_E k c91) Try.f112 [4001000] f112_un retF))) (S := Int × Int) (fun s => f112_hw1_0 p1 s.1 s.2) (f112_w1B k c91 (fun y0 y1 => retF (y0, y1)) p1) (fun NX s => by
    exact Eq.mp (by kernel_rfl) (f112_w1b0_eq k c91 retF NX p1 s.1 s.2)) k (n5, n6))

noncomputable def f112_e (c91 : PV → Int → (Bool → Int → R) → R) (ret0 : Int → Int → R) (w1 : Int → Int → R) (p1 : PV) (n2 : Int) : R :=
  w1 0 n2

theorem f112_e_mem (k : Nat) (c91 : PV → Int → (Bool → Int → R) → R) (retF : Int × Int → R) (p1 : PV) (n2 : Int) : exec (f112_E k c91) f112_code (endK (f112_E k c91) Try.f112 [4001000] f112_un retF) ⟨[.val 25 p1, .fn 91 [.ptr 4001000 []], .undef, .undef, .undef, .undef, .undef, .undef, .undef, .undef, .undef, .undef, .undef, .undef, .undef, .undef, .undef, .undef, .undef], [(4001000, .box 3 (.int .i64 n2))]⟩ = f112_e c91 (fun y0 y1 => retF (y0, y1)) (fun n5 n6 => f112_w1A k c91 retF p1 n5 n6) p1 n2 := by kernel_rfl

noncomputable def f112_N (k : Nat) (c91 : PV → Int → (Bool → Int → R) → R) (ret0 : Int → Int → R) (p1 : PV) (n2 : Int) : R :=
  f112_e c91 ret0 (fun n5 n6 => f112_w1N k c91 ret0 p1 n5 n6) p1 n2
theorem f112_eq (k : Nat) (c91 : PV → Int → (Bool → Int → R) → R) (retF : Int × Int → R) (p1 : PV) (n2 : Int) : exec (f112_E k c91) f112_code (endK (f112_E k c91) Try.f112 [4001000] f112_un retF) ⟨[.val 25 p1, .fn 91 [.ptr 4001000 []], .undef, .undef, .undef, .undef, .undef, .undef, .undef, .undef, .undef, .undef, .undef, .undef, .undef, .undef, .undef, .undef, .undef], [(4001000, .box 3 (.int .i64 n2))]⟩ = f112_N k c91 (fun y0 y1 => retF (y0, y1)) p1 n2 :=
  (f112_e_mem k c91 retF p1 n2).trans (by rw [show (fun n5 n6 => f112_w1A k c91 retF p1 n5 n6) = (fun n5 n6 => f112_w1N k c91 (fun y0 y1 => retF (y0, y1)) p1 n5 n6) from funext fun n5 => funext fun n6 => f112_w1_eq k c91 retF p1 n5 n6]; rfl)

noncomputable def f90_msk : Nat → Option (List Nat) := fun key =>  none
noncomputable def f90_C (c112 : PV → Int → (Int → Int → R) → R) : Oracle := orc 112 f112_D f112_O (fun x ret => c112 x.1 x.2 (fun y0 y1 => ret (y0, y1))) <| orc0
noncomputable def f90_E (k : Nat) (c112 : PV → Int → (Int → Int → R) → R) : Env := { P := Try.prog, nilOwn := fun d => false, fldOwn := fun d i => false, ownPar := ownPars, ownRet := false, hpD := fun d => false, hpF := hpFs, hpNew := false, mask := f90_msk, fuel := k, C := f90_C c112 }
noncomputable def f90_code : Code := Try.f90.body.getD .skip
noncomputable def f90_e (c112 : PV → Int → (Int → Int → R) → R) (ret0 : Bool → Int → R) (p1 : PV) (n2 : Int) : R :=
  c112 p1 n2 fun n3 n4 =>
  ret0 (decide ((0 : Int) ≤ n3)) n4

theorem f90_e_mem (k : Nat) (c112 : PV → Int → (Int → Int → R) → R) (retF : Bool × Int → R) (p1 : PV) (n2 : Int) : exec (f90_E k c112) f90_code (endK (f90_E k c112) Try.f90 [4001000] f90_un retF) ⟨[.val 25 p1, .fn 91 [.ptr 4001000 []], .undef, .undef, .undef, .undef, .undef, .undef, .undef], [(4001000, .box 3 (.int .i64 n2))]⟩ = f90_e c112 (fun y0 y1 => retF (y0, y1)) p1 n2 := by kernel_rfl

noncomputable def f90_N (k : Nat) (c112 : PV → Int → (Int → Int → R) → R) (ret0 : Bool → Int → R) (p1 : PV) (n2 : Int) : R :=
  f90_e c112 ret0 p1 n2
theorem f90_eq (k : Nat) (c112 : PV → Int → (Int → Int → R) → R) (retF : Bool × Int → R) (p1 : PV) (n2 : Int) : exec (f90_E k c112) f90_code (endK (f90_E k c112) Try.f90 [4001000] f90_un retF) ⟨[.val 25 p1, .fn 91 [.ptr 4001000 []], .undef, .undef, .undef, .undef, .undef, .undef, .undef], [(4001000, .box 3 (.int .i64 n2))]⟩ = f90_N k c112 (fun y0 y1 => retF (y0, y1)) p1 n2 :=
  (f90_e_mem k c112 retF p1 n2)

noncomputable def f60_msk : Nat → Option (List Nat) := fun key =>  none
noncomputable def f60_C (c89 : Int → (Int → R) → R) (c90 : PV → Int → (Bool → Int → R) → R) : Oracle := orc 89 f89_D f89_O (fun x ret => c89 x (fun y0 => ret y0)) <| orc 90 f90_D f90_O (fun x ret => c90 x.1 x.2 (fun y0 y1 => ret (y0, y1))) <| orc0
noncomputable def f60_E (k : Nat) (c89 : Int → (Int → R) → R) (c90 : PV → Int → (Bool → Int → R) → R) : Env := { P := Try.prog, nilOwn := fun d => false, fldOwn := fun d i => false, ownPar := ownPars, ownRet := false, hpD := fun d => false, hpF := hpFs, hpNew := false, mask := f60_msk, fuel := k, C := f60_C c89 c90 }
noncomputable def f60_code : Code := Try.f60.body.getD .skip
noncomputable def f60_e (c89 : Int → (Int → R) → R) (c90 : PV → Int → (Bool → Int → R) → R) (ret0 : Bool → R) (p1 : PV) (n2 : Int) : R :=
  bif ((decide (n2 < (1 : Int))) == false) then
    c89 (PV.num (PV.fld p1 0)) fun n3 =>
    bif ((!(decide ((List.length (PV.els (PV.fld p1 3)) : Int) = n3))) == false) then
      bif ((!(decide ((PV.num (PV.fld p1 0)) = (2 : Int)))) == true) then
        bif (!(PV.beq (PV.fld p1 1) (PV.agg [(PV.int 0), (PV.int 0), (PV.int 0), (PV.int 0)]))) then
          ret0 false
        else bif ((decide ((PV.num (PV.fld p1 0)) = (6 : Int))) == true) then
          bif ((decide ((PV.num (PV.fld p1 2)) < (1 : Int))) == false) then
            bif ((decide ((32 : Int) < (PV.num (PV.fld p1 2)))) == false) then
              bif ((!(decide ((PV.num (PV.fld p1 0)) = (6 : Int)))) == true) then
                bif (!(decide ((PV.num (PV.fld p1 2)) = (0 : Int)))) then
                  ret0 false
                else c90 (PV.fld p1 3) n2 fun b4 n5 =>
                ret0 (!b4)
              else c90 (PV.fld p1 3) n2 fun b6 n7 =>
              ret0 (!b6)
            else ret0 false
          else ret0 false
        else bif ((!(decide ((PV.num (PV.fld p1 0)) = (6 : Int)))) == true) then
          bif (!(decide ((PV.num (PV.fld p1 2)) = (0 : Int)))) then
            ret0 false
          else c90 (PV.fld p1 3) n2 fun b8 n9 =>
          ret0 (!b8)
        else c90 (PV.fld p1 3) n2 fun b10 n11 =>
        ret0 (!b10)
      else bif ((decide ((PV.num (PV.fld p1 0)) = (6 : Int))) == true) then
        bif ((decide ((PV.num (PV.fld p1 2)) < (1 : Int))) == false) then
          bif ((decide ((32 : Int) < (PV.num (PV.fld p1 2)))) == false) then
            bif ((!(decide ((PV.num (PV.fld p1 0)) = (6 : Int)))) == true) then
              bif (!(decide ((PV.num (PV.fld p1 2)) = (0 : Int)))) then
                ret0 false
              else c90 (PV.fld p1 3) n2 fun b12 n13 =>
              ret0 (!b12)
            else c90 (PV.fld p1 3) n2 fun b14 n15 =>
            ret0 (!b14)
          else ret0 false
        else ret0 false
      else bif ((!(decide ((PV.num (PV.fld p1 0)) = (6 : Int)))) == true) then
        bif (!(decide ((PV.num (PV.fld p1 2)) = (0 : Int)))) then
          ret0 false
        else c90 (PV.fld p1 3) n2 fun b16 n17 =>
        ret0 (!b16)
      else c90 (PV.fld p1 3) n2 fun b18 n19 =>
      ret0 (!b18)
    else ret0 false
  else ret0 false

theorem f60_e_mem (k : Nat) (c89 : Int → (Int → R) → R) (c90 : PV → Int → (Bool → Int → R) → R) (retF : Bool → R) (p1 : PV) (n2 : Int) : exec (f60_E k c89 c90) f60_code (endK (f60_E k c89 c90) Try.f60 [] f60_un retF) ⟨[.val 27 p1, .int .i64 n2, .undef, .undef, .undef, .undef, .undef, .undef, .undef, .undef, .undef, .undef, .undef, .undef, .undef, .undef, .undef, .undef, .undef, .undef, .undef, .undef, .undef, .undef, .undef, .undef, .undef, .undef, .undef, .undef, .undef, .undef, .undef, .undef, .undef, .undef, .undef, .undef, .undef, .undef, .undef, .undef, .undef, .undef, .undef, .undef, .undef, .undef, .undef, .undef, .undef, .undef, .undef, .undef, .undef], []⟩ = f60_e c89 c90 (fun y0 => retF y0) p1 n2 := by kernel_rfl

noncomputable def f60_N (k : Nat) (c89 : Int → (Int → R) → R) (c90 : PV → Int → (Bool → Int → R) → R) (ret0 : Bool → R) (p1 : PV) (n2 : Int) : R :=
  f60_e c89 c90 ret0 p1 n2
theorem f60_eq (k : Nat) (c89 : Int → (Int → R) → R) (c90 : PV → Int → (Bool → Int → R) → R) (retF : Bool → R) (p1 : PV) (n2 : Int) : exec (f60_E k c89 c90) f60_code (endK (f60_E k c89 c90) Try.f60 [] f60_un retF) ⟨[.val 27 p1, .int .i64 n2, .undef, .undef, .undef, .undef, .undef, .undef, .undef, .undef, .undef, .undef, .undef, .undef, .undef, .undef, .undef, .undef, .undef, .undef, .undef, .undef, .undef, .undef, .undef, .undef, .undef, .undef, .undef, .undef, .undef, .undef, .undef, .undef, .undef, .undef, .undef, .undef, .undef, .undef, .undef, .undef, .undef, .undef, .undef, .undef, .undef, .undef, .undef, .undef, .undef, .undef, .undef, .undef, .undef], []⟩ = f60_N k c89 c90 (fun y0 => retF y0) p1 n2 :=
  (f60_e_mem k c89 c90 retF p1 n2)

mutual
noncomputable def G91 : Nat → PV → Int → (Bool → Int → R) → R
  | 0, _, _, _ => none
  | k + 1, p1, n2, ret0 => f91_N k (G60 k) ret0 p1 n2
noncomputable def G112 : Nat → PV → Int → (Int → Int → R) → R
  | 0, _, _, _ => none
  | k + 1, p1, n2, ret0 => f112_N k (G91 k) ret0 p1 n2
noncomputable def G90 : Nat → PV → Int → (Bool → Int → R) → R
  | 0, _, _, _ => none
  | k + 1, p1, n2, ret0 => f90_N k (G112 k) ret0 p1 n2
noncomputable def G60 : Nat → PV → Int → (Bool → R) → R
  | 0, _, _, _ => none
  | k + 1, p1, n2, ret0 => f60_N k (G89 k) (G90 k) ret0 p1 n2
end
mutual
theorem S91 : ∀ k, Snd Try.prog 91 f91_I f91_O (fun x ret => G91 k x.1 x.2 (fun y0 y1 => ret (y0, y1)))
  | 0 => snd_none
  | k + 1 => snd_step (E := f91_E k (G60 k)) rfl laidOut noNums (orc_ok (S60 k).o f60_D_ok orc0_ok) (f := 91) (fn := Try.f91) (code := f91_code) Try.func91 (by kernel_rfl) (drawsOk_of laidOut (orc_ok (S60 k).o f60_D_ok orc0_ok) mixed (by kernel_rfl)) f91_un f91_un_ok [4000000] (fun _ => rfl)
      (fun x ret => f91_eq k (G60 k) ret x.1 x.2)
theorem S112 : ∀ k, Snd Try.prog 112 f112_I f112_O (fun x ret => G112 k x.1 x.2 (fun y0 y1 => ret (y0, y1)))
  | 0 => snd_none
  | k + 1 => snd_step (E := f112_E k (G91 k)) rfl laidOut noNums (orc_ok (S91 k).o f91_D_ok orc0_ok) (f := 112) (fn := Try.f112) (code := f112_code) Try.func112 (by kernel_rfl) (drawsOk_of laidOut (orc_ok (S91 k).o f91_D_ok orc0_ok) mixed (by kernel_rfl)) f112_un f112_un_ok [4001000] (fun _ => rfl)
      (fun x ret => f112_eq k (G91 k) ret x.1 x.2)
theorem S90 : ∀ k, Snd Try.prog 90 f90_I f90_O (fun x ret => G90 k x.1 x.2 (fun y0 y1 => ret (y0, y1)))
  | 0 => snd_none
  | k + 1 => snd_step (E := f90_E k (G112 k)) rfl laidOut noNums (orc_ok (S112 k).o f112_D_ok orc0_ok) (f := 90) (fn := Try.f90) (code := f90_code) Try.func90 (by kernel_rfl) (drawsOk_of laidOut (orc_ok (S112 k).o f112_D_ok orc0_ok) mixed (by kernel_rfl)) f90_un f90_un_ok [4001000] (fun _ => rfl)
      (fun x ret => f90_eq k (G112 k) ret x.1 x.2)
theorem S60 : ∀ k, Snd Try.prog 60 f60_I f60_O (fun x ret => G60 k x.1 x.2 (fun y0 => ret y0))
  | 0 => snd_none
  | k + 1 => snd_step (E := f60_E k (G89 k) (G90 k)) rfl laidOut noNums (orc_ok (S89 k).o f89_D_ok (orc_ok (S90 k).o f90_D_ok orc0_ok)) (f := 60) (fn := Try.f60) (code := f60_code) Try.func60 (by kernel_rfl) (drawsOk_of laidOut (orc_ok (S89 k).o f89_D_ok (orc_ok (S90 k).o f90_D_ok orc0_ok)) mixed (by kernel_rfl)) f60_un f60_un_ok [] (fun _ => rfl)
      (fun x ret => f60_eq k (G89 k) (G90 k) ret x.1 x.2)
end

/- catchpole/core.Good -/
noncomputable def f28_I : PV → List SV × Obs := fun x => ([.val 27 x], [])
noncomputable def f28_D : List SV → Obs → Option (PV)
  | [.val 27 p1], [] => some p1
  | _, _ => none
theorem f28_D_ok (args : List SV) (B : Obs) (x : PV) (h : f28_D args B = some x) : f28_I x = (args, B) := by
  unfold f28_D at h
  split at h
  · injection h with h; subst h; rfl
  · cases h
noncomputable def f28_O : Bool → Out := (fun y => ([.bool y], []))
noncomputable def f28_un : Out → Option (Bool)
  | ([.bool y0], []) => some y0
  | _ => none
theorem f28_un_ok (o : Out) (y : Bool) (h : f28_un o = some y) : o = f28_O y := by
  unfold f28_un at h
  split at h
  · injection h with h; subst h; rfl
  · cases h
noncomputable def f28_msk : Nat → Option (List Nat) := fun key =>  none
noncomputable def f28_C (c16 : PV → (Int → R) → R) (c60 : PV → Int → (Bool → R) → R) : Oracle := orc 16 f16_D f16_O (fun x ret => c16 x (fun y0 => ret y0)) <| orc 60 f60_D f60_O (fun x ret => c60 x.1 x.2 (fun y0 => ret y0)) <| orc0
noncomputable def f28_E (k : Nat) (c16 : PV → (Int → R) → R) (c60 : PV → Int → (Bool → R) → R) : Env := { P := Try.prog, nilOwn := fun d => false, fldOwn := fun d i => false, ownPar := ownPars, ownRet := false, hpD := fun d => false, hpF := hpFs, hpNew := false, mask := f28_msk, fuel := k, C := f28_C c16 c60 }
noncomputable def f28_code : Code := Try.f28.body.getD .skip
noncomputable def f28_e (c16 : PV → (Int → R) → R) (c60 : PV → Int → (Bool → R) → R) (ret0 : Bool → R) (p1 : PV) : R :=
  c16 p1 fun n2 =>
  bif ((decide (n2 ≤ (2000 : Int))) == true) then
    c60 p1 8000 fun b3 =>
    ret0 b3
  else ret0 false

theorem f28_e_mem (k : Nat) (c16 : PV → (Int → R) → R) (c60 : PV → Int → (Bool → R) → R) (retF : Bool → R) (p1 : PV) : exec (f28_E k c16 c60) f28_code (endK (f28_E k c16 c60) Try.f28 [] f28_un retF) ⟨[.val 27 p1, .undef, .undef, .undef, .undef, .undef, .undef, .undef, .undef, .undef], []⟩ = f28_e c16 c60 (fun y0 => retF y0) p1 := by kernel_rfl

noncomputable def f28_N (k : Nat) (c16 : PV → (Int → R) → R) (c60 : PV → Int → (Bool → R) → R) (ret0 : Bool → R) (p1 : PV) : R :=
  f28_e c16 c60 ret0 p1
theorem f28_eq (k : Nat) (c16 : PV → (Int → R) → R) (c60 : PV → Int → (Bool → R) → R) (retF : Bool → R) (p1 : PV) : exec (f28_E k c16 c60) f28_code (endK (f28_E k c16 c60) Try.f28 [] f28_un retF) ⟨[.val 27 p1, .undef, .undef, .undef, .undef, .undef, .undef, .undef, .undef, .undef], []⟩ = f28_N k c16 c60 (fun y0 => retF y0) p1 :=
  (f28_e_mem k c16 c60 retF p1)

noncomputable def G28 : Nat → PV → (Bool → R) → R
  | 0, _, _ => none
  | k + 1, p1, ret0 => f28_N k (G16 k) (G60 k) ret0 p1
theorem S28 : ∀ k, Snd Try.prog 28 f28_I f28_O (fun x ret => G28 k x (fun y0 => ret y0))
  | 0 => snd_none
  | k + 1 => snd_step (E := f28_E k (G16 k) (G60 k)) rfl laidOut noNums (orc_ok (S16 k).o f16_D_ok (orc_ok (S60 k).o f60_D_ok orc0_ok)) (f := 28) (fn := Try.f28) (code := f28_code) Try.func28 (by kernel_rfl) (drawsOk_of laidOut (orc_ok (S16 k).o f16_D_ok (orc_ok (S60 k).o f60_D_ok orc0_ok)) mixed (by kernel_rfl)) f28_un f28_un_ok [] (fun _ => rfl)
      (fun x ret => f28_eq k (G16 k) (G60 k) ret x)

/- catchpole/span.May -/
noncomputable def f68_I : PV × PV → List SV × Obs := fun x => ([.val 27 x.1, .val 28 x.2], [])
noncomputable def f68_D : List SV → Obs → Option (PV × PV)
  | [.val 27 p1, .val 28 p2], [] => some (p1, p2)
  | _, _ => none
theorem f68_D_ok (args : List SV) (B : Obs) (x : PV × PV) (h : f68_D args B = some x) : f68_I x = (args, B) := by
  unfold f68_D at h
  split at h
  · injection h with h; subst h; rfl
  · cases h
noncomputable def f68_O : Int → Out := (fun y => ([.int .i64 y], []))
noncomputable def f68_un : Out → Option (Int)
  | ([.int .i64 y0], []) => some y0
  | _ => none
theorem f68_un_ok (o : Out) (y : Int) (h : f68_un o = some y) : o = f68_O y := by
  unfold f68_un at h
  split at h
  · injection h with h; subst h; rfl
  · cases h
noncomputable def f68_msk : Nat → Option (List Nat) := fun key =>  none
noncomputable def f68_C (c16 : PV → (Int → R) → R) (c28 : PV → (Bool → R) → R) : Oracle := orc 16 f16_D f16_O (fun x ret => c16 x (fun y0 => ret y0)) <| orc 28 f28_D f28_O (fun x ret => c28 x (fun y0 => ret y0)) <| orc0
noncomputable def f68_E (k : Nat) (c16 : PV → (Int → R) → R) (c28 : PV → (Bool → R) → R) : Env := { P := Try.prog, nilOwn := fun d => false, fldOwn := fun d i => false, ownPar := ownPars, ownRet := false, hpD := fun d => false, hpF := hpFs, hpNew := false, mask := f68_msk, fuel := k, C := f68_C c16 c28 }
noncomputable def f68_code : Code := Try.f68.body.getD .skip
noncomputable def f68_e (c16 : PV → (Int → R) → R) (c28 : PV → (Bool → R) → R) (ret0 : Int → R) (p1 : PV) (p2 : PV) : R :=
  c28 p1 fun b3 =>
  bif ((!b3) == false) then
    bif (decide ((256 : Int) < (List.length (PV.els p2) : Int))) then
      ret0 1
    else c16 p1 fun n4 =>
    let n5 : Int := (IntKind.wrap .i64 ((IntKind.wrap .i64 (n4 * (IntKind.wrap .i64 ((List.length (PV.els p2) : Int) + (1 : Int))))) * (IntKind.wrap .i64 ((List.length (PV.els p2) : Int) + (1 : Int)))))
    bif (decide ((4000000 : Int) < n5)) then
      ret0 4
    else ret0 0
  else ret0 1

theorem f68_e_mem (k : Nat) (c16 : PV → (Int → R) → R) (c28 : PV → (Bool → R) → R) (retF : Int → R) (p1 : PV) (p2 : PV) : exec (f68_E k c16 c28) f68_code (endK (f68_E k c16 c28) Try.f68 [] f68_un retF) ⟨[.val 27 p1, .val 28 p2, .undef, .undef, .undef, .undef, .undef, .undef, .undef, .undef, .undef, .undef, .undef, .undef, .undef, .undef, .undef, .undef, .undef, .undef, .undef, .undef, .undef, .undef, .undef, .undef], []⟩ = f68_e c16 c28 (fun y0 => retF y0) p1 p2 := by kernel_rfl

noncomputable def f68_N (k : Nat) (c16 : PV → (Int → R) → R) (c28 : PV → (Bool → R) → R) (ret0 : Int → R) (p1 : PV) (p2 : PV) : R :=
  f68_e c16 c28 ret0 p1 p2
theorem f68_eq (k : Nat) (c16 : PV → (Int → R) → R) (c28 : PV → (Bool → R) → R) (retF : Int → R) (p1 : PV) (p2 : PV) : exec (f68_E k c16 c28) f68_code (endK (f68_E k c16 c28) Try.f68 [] f68_un retF) ⟨[.val 27 p1, .val 28 p2, .undef, .undef, .undef, .undef, .undef, .undef, .undef, .undef, .undef, .undef, .undef, .undef, .undef, .undef, .undef, .undef, .undef, .undef, .undef, .undef, .undef, .undef, .undef, .undef], []⟩ = f68_N k c16 c28 (fun y0 => retF y0) p1 p2 :=
  (f68_e_mem k c16 c28 retF p1 p2)

noncomputable def G68 : Nat → PV → PV → (Int → R) → R
  | 0, _, _, _ => none
  | k + 1, p1, p2, ret0 => f68_N k (G16 k) (G28 k) ret0 p1 p2
theorem S68 : ∀ k, Snd Try.prog 68 f68_I f68_O (fun x ret => G68 k x.1 x.2 (fun y0 => ret y0))
  | 0 => snd_none
  | k + 1 => snd_step (E := f68_E k (G16 k) (G28 k)) rfl laidOut noNums (orc_ok (S16 k).o f16_D_ok (orc_ok (S28 k).o f28_D_ok orc0_ok)) (f := 68) (fn := Try.f68) (code := f68_code) Try.func68 (by kernel_rfl) (drawsOk_of laidOut (orc_ok (S16 k).o f16_D_ok (orc_ok (S28 k).o f28_D_ok orc0_ok)) mixed (by kernel_rfl)) f68_un f68_un_ok [] (fun _ => rfl)
      (fun x ret => f68_eq k (G16 k) (G28 k) ret x.1 x.2)

/- (*catchpole/lang.Table).add -/
noncomputable def f95_I : PV × PV × (List HE) → List SV × Obs := fun x => ([.hval 76 x.1, .val 27 x.2.1], [(1000000000000, .hp x.2.2)])
noncomputable def f95_D : List SV → Obs → Option (PV × PV × (List HE))
  | [.hval 76 p1, .val 27 p2], [(1000000000000, .hp h3)] => some (p1, p2, h3)
  | _, _ => none
theorem f95_D_ok (args : List SV) (B : Obs) (x : PV × PV × (List HE)) (h : f95_D args B = some x) : f95_I x = (args, B) := by
  unfold f95_D at h
  split at h
  · injection h with h; subst h; rfl
  · cases h
noncomputable def f95_O : Int × (List HE) → Out := (fun y => ([.int .i64 y.1], [(1000000000000, .hp y.2)]))
noncomputable def f95_un : Out → Option (Int × (List HE))
  | ([.int .i64 y0], [(1000000000000, .hp y1)]) => some (y0, y1)
  | _ => none
theorem f95_un_ok (o : Out) (y : Int × (List HE)) (h : f95_un o = some y) : o = f95_O y := by
  unfold f95_un at h
  split at h
  · injection h with h; subst h; rfl
  · cases h
noncomputable def f95_msk : Nat → Option (List Nat) := fun key => bif key == 12 then some [0, 5, 26, 27, 28] else none
noncomputable def f95_C (c95 : PV → PV → (List HE) → (Int → (List HE) → R) → R) : Oracle := orc 95 f95_D f95_O (fun x ret => c95 x.1 x.2.1 x.2.2 (fun y0 y1 => ret (y0, y1))) <| orc0
noncomputable def f95_E (k : Nat) (c95 : PV → PV → (List HE) → (Int → (List HE) → R) → R) : Env := { P := Try.prog, nilOwn := fun d => false, fldOwn := fun d i => false, ownPar := ownPars, ownRet := false, hpD := fun d => d == 20 || d == 21 || d == 49, hpF := hpFs, hpNew := false, mask := f95_msk, fuel := k, C := f95_C c95 }
noncomputable def f95_code : Code := Try.f95.body.getD .skip
noncomputable def f95_cw1 : Code := subC f95_code [1, 1, 1, 0, 1, 0, 0]
noncomputable def f95_hw1_0 (p1 : PV) (p2 : PV) (h3 : List HE) (n13 : Int) (h14 : List HE) : St := ⟨[.hval 76 p1, .dead, .dead, .dead, .dead, .int .i64 ((PV.rN (PV.fld (hvarOf h3 (PV.rI p1)) 0)) : Int), .dead, .dead, .dead, .dead, .dead, .dead, .dead, .dead, .dead, .dead, .dead, .dead, .dead, .dead, .dead, .dead, .dead, .dead, .dead, .dead, .val 25 (PV.fld p2 3), .int .i64 (List.length (PV.els (PV.fld p2 3)) : Int), .int .i64 n13, .dead, .dead, .dead, .dead, .dead, .dead, .dead, .dead, .dead, .dead, .dead, .dead, .dead, .dead, .dead, .dead, .dead, .dead, .dead, .dead, .dead, .dead, .dead, .dead, .dead, .dead], [(1000000000000, .hp h14)]⟩
noncomputable def f95_w1A (k : Nat) (c95 : PV → PV → (List HE) → (Int → (List HE) → R) → R) (retF : Int × (List HE) → R) (p1 : PV) (p2 : PV) (h3 : List HE) (n13 : Int) (h14 : List HE) : R := loopM (f95_E k c95) f95_cw1 (kont (f95_E k c95) f95_code [1, 1, 1, 0, 1, 0] (endK (f95_E k c95) Try.f95 [1000000000000] f95_un retF)) k (f95_hw1_0 p1 p2 h3 n13 h14)
noncomputable def f95_w1b0 (c95 : PV → PV → (List HE) → (Int → (List HE) → R) → R) (ret0 : Int → (List HE) → R) (next_w1_0 : Int → (List HE) → R) (p1 : PV) (p2 : PV) (h3 : List HE) (n13 : Int) (h14 : List HE) : R :=
  bif (decide (n13 < (List.length (PV.els (PV.fld p2 3)) : Int))) then
    bif (true && decide ((0 : Int) ≤ n13) && decide (n13 < (List.length (PV.els (PV.fld p2 3)) : Int))) then
      c95 p1 (List.getD (PV.els (PV.fld p2 3)) (n13).toNat PV.nil) h14 fun n15 h16 =>
      bif (PV.isRp p1) then
        bif (true && true && (hokV h16 86 (PV.rI p1))) then
          bif (PV.isRp p1) then
            bif (true && true && (hokV h16 86 (PV.rI p1))) then
              bif (true && decide ((0 : Int) ≤ ((PV.rN (PV.fld (hvarOf h3 (PV.rI p1)) 0)) : Int)) && decide (((PV.rN (PV.fld (hvarOf h3 (PV.rI p1)) 0)) : Int) < ((PV.rN (PV.fld (hvarOf h16 (PV.rI p1)) 0)) : Int))) then
                bif (true && true && (hokR h16 118 (PV.rI (PV.fld (hvarOf h16 (PV.rI p1)) 0)) ((PV.rN (PV.fld (hvarOf h3 (PV.rI p1)) 0)) : Int))) then
                  let p17 : PV := (PV.fld (List.getD (hrowOf h16 (PV.rI (PV.fld (hvarOf h16 (PV.rI p1)) 0))) (((PV.rN (PV.fld (hvarOf h3 (PV.rI p1)) 0)) : Int)).toNat PV.nil) 1)
                  let h18 : List HE := (h16 ++ [HE.row 3 [(PV.int n15)]])
                  bif (true && true && (hokV h18 86 (PV.rI p1))) then
                    bif (PV.beq (PV.fld (hvarOf h18 (PV.rI p1)) 0) (PV.fld (hvarOf h16 (PV.rI p1)) 0)) then
                      bif (hokS h18 3 p17 && hokS h18 3 (PV.rs (List.length h16) 1) && true && true && true && true && true && true && ((PV.isRs p17) || decide (0 < 1)) && roomy ((PV.rN p17) + 1) 8) then
                        let h19 : List HE := (hgone h18 p17 ++ [HE.row 3 (hels h18 p17 ++ hels h18 (PV.rs (List.length h16) 1))])
                        bif (true && true && (hokV h19 86 (PV.rI p1))) then
                          bif (PV.beq (PV.fld (hvarOf h19 (PV.rI p1)) 0) (PV.fld (hvarOf h16 (PV.rI p1)) 0)) then
                            bif (true && decide ((0 : Int) ≤ ((PV.rN (PV.fld (hvarOf h3 (PV.rI p1)) 0)) : Int)) && decide (((PV.rN (PV.fld (hvarOf h3 (PV.rI p1)) 0)) : Int) < ((PV.rN (PV.fld (hvarOf h16 (PV.rI p1)) 0)) : Int))) then
                              bif (true && (hokR h19 118 (PV.rI (PV.fld (hvarOf h16 (PV.rI p1)) 0)) ((PV.rN (PV.fld (hvarOf h3 (PV.rI p1)) 0)) : Int))) then
                                let h20 : List HE := (List.set h19 (PV.rI (PV.fld (hvarOf h16 (PV.rI p1)) 0)) (HE.row 118 (List.set (hrowOf h19 (PV.rI (PV.fld (hvarOf h16 (PV.rI p1)) 0))) (((PV.rN (PV.fld (hvarOf h3 (PV.rI p1)) 0)) : Int)).toNat (PV.agg (List.set (PV.flds (List.getD (hrowOf h19 (PV.rI (PV.fld (hvarOf h16 (PV.rI p1)) 0))) (((PV.rN (PV.fld (hvarOf h3 (PV.rI p1)) 0)) : Int)).toNat PV.nil)) 1 (PV.rs (List.length h18) ((PV.rN p17) + 1)))))))
                                next_w1_0 (IntKind.wrap .i64 (n13 + (1 : Int))) h20
                              else none
                            else none
                          else none
                        else none
                      else none
                    else none
                  else none
                else none
              else none
            else none
          else none
        else none
      else none
    else none
  else ret0 ((PV.rN (PV.fld (hvarOf h3 (PV.rI p1)) 0)) : Int) h14

theorem f95_w1b0_mem (k : Nat) (c95 : PV → PV → (List HE) → (Int → (List HE) → R) → R) (retF : Int × (List HE) → R) (NX_w1 : St → R) (p1 : PV) (p2 : PV) (h3 : List HE) (n13 : Int) (h14 : List HE) : exec (f95_E k c95) f95_cw1 (purgeK (f95_E k c95) f95_cw1 (loopK NX_w1 (kont (f95_E k c95) f95_code [1, 1, 1, 0, 1, 0] (endK (f95_E k c95) Try.f95 [1000000000000] f95_un retF)))) (f95_hw1_0 p1 p2 h3 n13 h14) = f95_w1b0 c95 (fun y0 y1 => retF (y0, y1)) (fun n13 h14 => NX_w1 (f95_hw1_0 p1 p2 h3 n13 h14)) p1 p2 h3 n13 h14 := by kernel_rfl

noncomputable def f95_w1b0N (k : Nat) (c95 : PV → PV → (List HE) → (Int → (List HE) → R) → R) (ret0 : Int → (List HE) → R) (next_w1_0 : Int → (List HE) → R) (p1 : PV) (p2 : PV) (h3 : List HE) (n13 : Int) (h14 : List HE) : R :=
  f95_w1b0 c95 ret0 next_w1_0 p1 p2 h3 n13 h14
theorem f95_w1b0_eq (k : Nat) (c95 : PV → PV → (List HE) → (Int → (List HE) → R) → R) (retF : Int × (List HE) → R) (NX_w1 : St → R) (p1 : PV) (p2 : PV) (h3 : List HE) (n13 : Int) (h14 : List HE) : exec (f95_E k c95) f95_cw1 (purgeK (f95_E k c95) f95_cw1 (loopK NX_w1 (kont (f95_E k c95) f95_code [1, 1, 1, 0, 1, 0] (endK (f95_E k c95) Try.f95 [1000000000000] f95_un retF)))) (f95_hw1_0 p1 p2 h3 n13 h14) = f95_w1b0N k c95 (fun y0 y1 => retF (y0, y1)) (fun n13 h14 => NX_w1 (f95_hw1_0 p1 p2 h3 n13 h14)) p1 p2 h3 n13 h14 :=
  (f95_w1b0_mem k c95 retF NX_w1 p1 p2 h3 n13 h14)

noncomputable def f95_w1B (k : Nat) (c95 : PV → PV → (List HE) → (Int → (List HE) → R) → R) (ret0 : Int → (List HE) → R) (p1 : PV) (p2 : PV) (h3 : List HE) (nx : Int × (List HE) → R) : Int × (List HE) → R := (fun s => f95_w1b0N k c95 ret0 (fun n13 h14 => nx (n13, h14)) p1 p2 h3 s.1 s.2)
noncomputable def f95_w1N (k : Nat) (c95 : PV → PV → (List HE) → (Int → (List HE) → R) → R) (ret0 : Int → (List HE) → R) (p1 : PV) (p2 : PV) (h3 : List HE) (n13 : Int) (h14 : List HE) : R := loopR (f95_w1B k c95 ret0 p1 p2 h3) k (n13, h14)
theorem f95_w1_eq (k : Nat) (c95 : PV → PV → (List HE) → (Int → (List HE) → R) → R) (retF : Int × (List HE) → R) (p1 : PV) (p2 : PV) (h3 : List HE) (n13 : Int) (h14 : List HE) : f95_w1A k c95 retF p1 p2 h3 n13 h14 = f95_w1N k c95 (fun y0 y1 => retF (y0, y1)) p1 p2 h3 n13 h14 :=
  Eq.mp (by kernel_rfl) (loop_sim (E := (f95_E k c95)) (c := f95_cw1) (K := (kont (f95_E k c95) f95_code [1, 1, 1, 0, 1, 0] (endK (f95_E k c95) Try.f95 [1000000000000] f95_un retF))) (S := Int × (List HE)) (fun s => f95_hw1_0 p1 p2 h3 s.1 s.2) (f95_w1B k c95 (fun y0 y1 => retF (y0, y1)) p1 p2 h3) (fun NX s => by
    exact Eq.mp (by kernel_rfl) (f95_w1b0_eq k c95 retF NX p1 p2 h3 s.1 s.2)) k (n13, h14))

noncomputable def f95_e (c95 : PV → PV → (List HE) → (Int → (List HE) → R) → R) (ret0 : Int → (List HE) → R) (w1 : Int → (List HE) → R) (p1 : PV) (p2 : PV) (h3 : List HE) : R :=
  bif (PV.isRp p1) then
    bif (true && true && (hokV h3 86 (PV.rI p1))) then
      bif (PV.isRp p1) then
        bif (true && true && (hokV h3 86 (PV.rI p1))) then
          let h4 : List HE := (h3 ++ [HE.row 118 [(PV.agg [p2, (PV.list [])])]])
          bif (hokS h4 118 (PV.fld (hvarOf h3 (PV.rI p1)) 0) && hokS h4 118 (PV.rs (List.length h3) 1) && true && true && true && true && true && true && ((PV.isRs (PV.fld (hvarOf h3 (PV.rI p1)) 0)) || decide (0 < 1)) && roomy ((PV.rN (PV.fld (hvarOf h3 (PV.rI p1)) 0)) + 1) 96) then
            let h5 : List HE := (hgone h4 (PV.fld (hvarOf h3 (PV.rI p1)) 0) ++ [HE.row 118 (hels h4 (PV.fld (hvarOf h3 (PV.rI p1)) 0) ++ hels h4 (PV.rs (List.length h3) 1))])
            bif (PV.isRp p1) then
              bif (true && (hokV h5 86 (PV.rI p1))) then
                let h6 : List HE := (List.set h5 (PV.rI p1) (HE.var 86 (PV.agg (List.set (PV.flds (hvarOf h5 (PV.rI p1))) 0 (PV.rs (List.length h4) ((PV.rN (PV.fld (hvarOf h3 (PV.rI p1)) 0)) + 1))))))
                w1 0 h6
              else none
            else none
          else none
        else none
      else none
    else none
  else none

theorem f95_e_mem (k : Nat) (c95 : PV → PV → (List HE) → (Int → (List HE) → R) → R) (retF : Int × (List HE) → R) (p1 : PV) (p2 : PV) (h3 : List HE) : exec (f95_E k c95) f95_code (endK (f95_E k c95) Try.f95 [1000000000000] f95_un retF) ⟨[.hval 76 p1, .val 27 p2, .undef, .undef, .undef, .undef, .undef, .undef, .undef, .undef, .undef, .undef, .undef, .undef, .undef, .undef, .undef, .undef, .undef, .undef, .undef, .undef, .undef, .undef, .undef, .undef, .undef, .undef, .undef, .undef, .undef, .undef, .undef, .undef, .undef, .undef, .undef, .undef, .undef, .undef, .undef, .undef, .undef, .undef, .undef, .undef, .undef, .undef, .undef, .undef, .undef, .undef, .undef, .undef, .undef], [(1000000000000, .hp h3)]⟩ = f95_e c95 (fun y0 y1 => retF (y0, y1)) (fun n13 h14 => f95_w1A k c95 retF p1 p2 h3 n13 h14) p1 p2 h3 := by kernel_rfl

noncomputable def f95_N (k : Nat) (c95 : PV → PV → (List HE) → (Int → (List HE) → R) → R) (ret0 : Int → (List HE) → R) (p1 : PV) (p2 : PV) (h3 : List HE) : R :=
  f95_e c95 ret0 (fun n13 h14 => f95_w1N k c95 ret0 p1 p2 h3 n13 h14) p1 p2 h3
theorem f95_eq (k : Nat) (c95 : PV → PV → (List HE) → (Int → (List HE) → R) → R) (retF : Int × (List HE) → R) (p1 : PV) (p2 : PV) (h3 : List HE) : exec (f95_E k c95) f95_code (endK (f95_E k c95) Try.f95 [1000000000000] f95_un retF) ⟨[.hval 76 p1, .val 27 p2, .undef, .undef, .undef, .undef, .undef, .undef, .undef, .undef, .undef, .undef, .undef, .undef, .undef, .undef, .undef, .undef, .undef, .undef, .undef, .undef, .undef, .undef, .undef, .undef, .undef, .undef, .undef, .undef, .undef, .undef, .undef, .undef, .undef, .undef, .undef, .undef, .undef, .undef, .undef, .undef, .undef, .undef, .undef, .undef, .undef, .undef, .undef, .undef, .undef, .undef, .undef, .undef, .undef], [(1000000000000, .hp h3)]⟩ = f95_N k c95 (fun y0 y1 => retF (y0, y1)) p1 p2 h3 :=
  (f95_e_mem k c95 retF p1 p2 h3).trans (by rw [show (fun n13 h14 => f95_w1A k c95 retF p1 p2 h3 n13 h14) = (fun n13 h14 => f95_w1N k c95 (fun y0 y1 => retF (y0, y1)) p1 p2 h3 n13 h14) from funext fun n13 => funext fun h14 => f95_w1_eq k c95 retF p1 p2 h3 n13 h14]; rfl)

noncomputable def G95 : Nat → PV → PV → (List HE) → (Int → (List HE) → R) → R
  | 0, _, _, _, _ => none
  | k + 1, p1, p2, h3, ret0 => f95_N k (G95 k) ret0 p1 p2 h3
theorem S95 : ∀ k, Snd Try.prog 95 f95_I f95_O (fun x ret => G95 k x.1 x.2.1 x.2.2 (fun y0 y1 => ret (y0, y1)))
  | 0 => snd_none
  | k + 1 => snd_step (E := f95_E k (G95 k)) rfl laidOut noNums (orc_ok (S95 k).o f95_D_ok orc0_ok) (f := 95) (fn := Try.f95) (code := f95_code) Try.func95 (by kernel_rfl) (drawsOk_of laidOut (orc_ok (S95 k).o f95_D_ok orc0_ok) mixed (by kernel_rfl)) f95_un f95_un_ok [1000000000000] (fun _ => rfl)
      (fun x ret => f95_eq k (G95 k) ret x.1 x.2.1 x.2.2)

/- catchpole/lang.New -/
noncomputable def f66_I : PV × PV × (List HE) → List SV × Obs := fun x => ([.val 27 x.1, .val 28 x.2.1], [(1000000000000, .hp x.2.2)])
noncomputable def f66_D : List SV → Obs → Option (PV × PV × (List HE))
  | [.val 27 p1, .val 28 p2], [(1000000000000, .hp h3)] => some (p1, p2, h3)
  | _, _ => none
theorem f66_D_ok (args : List SV) (B : Obs) (x : PV × PV × (List HE)) (h : f66_D args B = some x) : f66_I x = (args, B) := by
  unfold f66_D at h
  split at h
  · injection h with h; subst h; rfl
  · cases h
noncomputable def f66_O : PV × (List HE) → Out := (fun y => ([.hval 76 y.1], [(1000000000000, .hp y.2)]))
noncomputable def f66_un : Out → Option (PV × (List HE))
  | ([.hval 76 y0], [(1000000000000, .hp y1)]) => some (y0, y1)
  | _ => none
theorem f66_un_ok (o : Out) (y : PV × (List HE)) (h : f66_un o = some y) : o = f66_O y := by
  unfold f66_un at h
  split at h
  · injection h with h; subst h; rfl
  · cases h
noncomputable def f66_msk : Nat → Option (List Nat) := fun key =>  none
noncomputable def f66_C (c95 : PV → PV → (List HE) → (Int → (List HE) → R) → R) : Oracle := orc 95 f95_D f95_O (fun x ret => c95 x.1 x.2.1 x.2.2 (fun y0 y1 => ret (y0, y1))) <| orc0
noncomputable def f66_E (k : Nat) (c95 : PV → PV → (List HE) → (Int → (List HE) → R) → R) : Env := { P := Try.prog, nilOwn := fun d => false, fldOwn := fun d i => false, ownPar := ownPars, ownRet := false, hpD := fun d => d == 7 || d == 8 || d == 18, hpF := hpFs, hpNew := false, mask := f66_msk, fuel := k, C := f66_C c95 }
noncomputable def f66_code : Code := Try.f66.body.getD .skip
noncomputable def f66_e (c95 : PV → PV → (List HE) → (Int → (List HE) → R) → R) (ret0 : PV → (List HE) → R) (p1 : PV) (p2 : PV) (h3 : List HE) : R :=
  let h4 : List HE := (h3 ++ [HE.var 86 (PV.agg [(PV.list []), p2, (PV.list [])])])
  c95 (PV.rp (List.length h3)) p1 h4 fun n5 h6 =>
  bif (true && true && (hokV h6 86 (List.length h3))) then
    bif (true && (true && decide ((0 : Int) ≤ ((PV.rN (PV.fld (hvarOf h6 (List.length h3)) 0)) : Int)) && decide (((PV.rN (PV.fld (hvarOf h6 (List.length h3)) 0)) : Int) = ((PV.rN (PV.fld (hvarOf h6 (List.length h3)) 0)) : Int)) && roomy (((PV.rN (PV.fld (hvarOf h6 (List.length h3)) 0)) : Int)).toNat 24)) then
      let h7 : List HE := (h6 ++ [HE.row 137 (List.replicate (((PV.rN (PV.fld (hvarOf h6 (List.length h3)) 0)) : Int)).toNat (PV.list []))])
      bif (true && (hokV h7 86 (List.length h3))) then
        let h8 : List HE := (List.set h7 (List.length h3) (HE.var 86 (PV.agg (List.set (PV.flds (hvarOf h7 (List.length h3))) 2 (PV.rs (List.length h6) (((PV.rN (PV.fld (hvarOf h6 (List.length h3)) 0)) : Int)).toNat)))))
        ret0 (PV.rp (List.length h3)) h8
      else none
    else none
  else none

theorem f66_e_mem (k : Nat) (c95 : PV → PV → (List HE) → (Int → (List HE) → R) → R) (retF : PV × (List HE) → R) (p1 : PV) (p2 : PV) (h3 : List HE) : exec (f66_E k c95) f66_code (endK (f66_E k c95) Try.f66 [1000000000000] f66_un retF) ⟨[.val 27 p1, .val 28 p2, .undef, .undef, .undef, .undef, .undef, .undef, .undef, .undef, .undef, .undef, .undef, .undef, .undef, .undef, .undef, .undef, .undef, .undef, .undef, .undef], [(1000000000000, .hp h3)]⟩ = f66_e c95 (fun y0 y1 => retF (y0, y1)) p1 p2 h3 := by kernel_rfl

noncomputable def f66_N (k : Nat) (c95 : PV → PV → (List HE) → (Int → (List HE) → R) → R) (ret0 : PV → (List HE) → R) (p1 : PV) (p2 : PV) (h3 : List HE) : R :=
  f66_e c95 ret0 p1 p2 h3
theorem f66_eq (k : Nat) (c95 : PV → PV → (List HE) → (Int → (List HE) → R) → R) (retF : PV × (List HE) → R) (p1 : PV) (p2 : PV) (h3 : List HE) : exec (f66_E k c95) f66_code (endK (f66_E k c95) Try.f66 [1000000000000] f66_un retF) ⟨[.val 27 p1, .val 28 p2, .undef, .undef, .undef, .undef, .undef, .undef, .undef, .undef, .undef, .undef, .undef, .undef, .undef, .undef, .undef, .undef, .undef, .undef, .undef, .undef], [(1000000000000, .hp h3)]⟩ = f66_N k c95 (fun y0 y1 => retF (y0, y1)) p1 p2 h3 :=
  (f66_e_mem k c95 retF p1 p2 h3)

noncomputable def G66 : Nat → PV → PV → (List HE) → (PV → (List HE) → R) → R
  | 0, _, _, _, _ => none
  | k + 1, p1, p2, h3, ret0 => f66_N k (G95 k) ret0 p1 p2 h3
theorem S66 : ∀ k, Snd Try.prog 66 f66_I f66_O (fun x ret => G66 k x.1 x.2.1 x.2.2 (fun y0 y1 => ret (y0, y1)))
  | 0 => snd_none
  | k + 1 => snd_step (E := f66_E k (G95 k)) rfl laidOut noNums (orc_ok (S95 k).o f95_D_ok orc0_ok) (f := 66) (fn := Try.f66) (code := f66_code) Try.func66 (by kernel_rfl) (drawsOk_of laidOut (orc_ok (S95 k).o f95_D_ok orc0_ok) mixed (by kernel_rfl)) f66_un f66_un_ok [1000000000000] (fun _ => rfl)
      (fun x ret => f66_eq k (G95 k) ret x.1 x.2.1 x.2.2)

/- (*catchpole/lang.places).put -/
noncomputable def f113_I : PV × Int × (List HE) → List SV × Obs := fun x => ([.hval 114 x.1, .int .i64 x.2.1], [(1000000000000, .hp x.2.2)])
noncomputable def f113_D : List SV → Obs → Option (PV × Int × (List HE))
  | [.hval 114 p1, .int .i64 n2], [(1000000000000, .hp h3)] => some (p1, n2, h3)
  | _, _ => none
theorem f113_D_ok (args : List SV) (B : Obs) (x : PV × Int × (List HE)) (h : f113_D args B = some x) : f113_I x = (args, B) := by
  unfold f113_D at h
  split at h
  · injection h with h; subst h; rfl
  · cases h
noncomputable def f113_O : (List HE) → Out := (fun y => ([], [(1000000000000, .hp y)]))
noncomputable def f113_un : Out → Option ((List HE))
  | ([], [(1000000000000, .hp y0)]) => some y0
  | _ => none
theorem f113_un_ok (o : Out) (y : (List HE)) (h : f113_un o = some y) : o = f113_O y := by
  unfold f113_un at h
  split at h
  · injection h with h; subst h; rfl
  · cases h
noncomputable def f113_msk : Nat → Option (List Nat) := fun key =>  none
noncomputable def f113_C : Oracle := orc0
noncomputable def f113_E (k : Nat) : Env := { P := Try.prog, nilOwn := fun d => false, fldOwn := fun d i => false, ownPar := ownPars, ownRet := false, hpD := fun d => false, hpF := hpFs, hpNew := false, mask := f113_msk, fuel := k, C := f113_C }
noncomputable def f113_code : Code := Try.f113.body.getD .skip
noncomputable def f113_e (ret0 : (List HE) → R) (p1 : PV) (n2 : Int) (h3 : List HE) : R :=
  bif (PV.isRp p1) then
    bif (true && decide ((0 : Int) ≤ (IntKind.wrap .i64 (Int.tdiv n2 64))) && decide ((IntKind.wrap .i64 (Int.tdiv n2 64)) < 5)) then
      bif (true && true && (hokV h3 139 (PV.rI p1))) then
        bif (decide ((0 : Int) ≤ (Int.tmod n2 64))) then
          let n4 : Int := (intBit .or .u64 (PV.num (PV.fld (hvarOf h3 (PV.rI p1)) ((IntKind.wrap .i64 (Int.tdiv n2 64))).toNat)) (IntKind.wrap .u64 ((1 : Int) * 2 ^ (min ((Int.tmod n2 64)).toNat 64))))
          bif (PV.isRp p1) then
            bif (true && decide ((0 : Int) ≤ (IntKind.wrap .i64 (Int.tdiv n2 64))) && decide ((IntKind.wrap .i64 (Int.tdiv n2 64)) < 5)) then
              bif (true && (hokV h3 139 (PV.rI p1))) then
                let h5 : List HE := (List.set h3 (PV.rI p1) (HE.var 139 (PV.agg (List.set (PV.flds (hvarOf h3 (PV.rI p1))) ((IntKind.wrap .i64 (Int.tdiv n2 64))).toNat (PV.int n4)))))
                ret0 h5
              else none
            else none
          else none
        else none
      else none
    else none
  else none

theorem f113_e_mem (k : Nat) (retF : (List HE) → R) (p1 : PV) (n2 : Int) (h3 : List HE) : exec (f113_E k) f113_code (endK (f113_E k) Try.f113 [1000000000000] f113_un retF) ⟨[.hval 114 p1, .int .i64 n2, .undef, .undef, .undef, .undef, .undef, .undef, .undef, .undef, .undef, .undef, .undef, .undef, .undef, .undef], [(1000000000000, .hp h3)]⟩ = f113_e (fun y0 => retF y0) p1 n2 h3 := by kernel_rfl

noncomputable def f113_N (k : Nat) (ret0 : (List HE) → R) (p1 : PV) (n2 : Int) (h3 : List HE) : R :=
  f113_e ret0 p1 n2 h3
theorem f113_eq (k : Nat) (retF : (List HE) → R) (p1 : PV) (n2 : Int) (h3 : List HE) : exec (f113_E k) f113_code (endK (f113_E k) Try.f113 [1000000000000] f113_un retF) ⟨[.hval 114 p1, .int .i64 n2, .undef, .undef, .undef, .undef, .undef, .undef, .undef, .undef, .undef, .undef, .undef, .undef, .undef, .undef], [(1000000000000, .hp h3)]⟩ = f113_N k (fun y0 => retF y0) p1 n2 h3 :=
  (f113_e_mem k retF p1 n2 h3)

noncomputable def G113 : Nat → PV → Int → (List HE) → ((List HE) → R) → R
  | 0, _, _, _, _ => none
  | k + 1, p1, n2, h3, ret0 => f113_N k  ret0 p1 n2 h3
theorem S113 : ∀ k, Snd Try.prog 113 f113_I f113_O (fun x ret => G113 k x.1 x.2.1 x.2.2 (fun y0 => ret y0))
  | 0 => snd_none
  | k + 1 => snd_step (E := f113_E k ) rfl laidOut noNums orc0_ok (f := 113) (fn := Try.f113) (code := f113_code) Try.func113 (by kernel_rfl) (drawsOk_of laidOut orc0_ok mixed (by kernel_rfl)) f113_un f113_un_ok [1000000000000] (fun _ => rfl)
      (fun x ret => f113_eq k  ret x.1 x.2.1 x.2.2)

/- (catchpole/byteset.Set).Has -/
noncomputable def f31_I : PV × Int → List SV × Obs := fun x => ([.val 24 x.1, .int .u8 x.2], [])
noncomputable def f31_D : List SV → Obs → Option (PV × Int)
  | [.val 24 p1, .int .u8 n2], [] => some (p1, n2)
  | _, _ => none
theorem f31_D_ok (args : List SV) (B : Obs) (x : PV × Int) (h : f31_D args B = some x) : f31_I x = (args, B) := by
  unfold f31_D at h
  split at h
  · injection h with h; subst h; rfl
  · cases h
noncomputable def f31_O : Bool → Out := (fun y => ([.bool y], []))
noncomputable def f31_un : Out → Option (Bool)
  | ([.bool y0], []) => some y0
  | _ => none
theorem f31_un_ok (o : Out) (y : Bool) (h : f31_un o = some y) : o = f31_O y := by
  unfold f31_un at h
  split at h
  · injection h with h; subst h; rfl
  · cases h
noncomputable def f31_msk : Nat → Option (List Nat) := fun key =>  none
noncomputable def f31_C : Oracle := orc0
noncomputable def f31_E (k : Nat) : Env := { P := Try.prog, nilOwn := fun d => false, fldOwn := fun d i => false, ownPar := ownPars, ownRet := false, hpD := fun d => false, hpF := hpFs, hpNew := false, mask := f31_msk, fuel := k, C := f31_C }
noncomputable def f31_code : Code := Try.f31.body.getD .skip
noncomputable def f31_e (ret0 : Bool → R) (p1 : PV) (n2 : Int) : R :=
  bif (true && decide ((0 : Int) ≤ (IntKind.wrap .u8 (Int.tdiv n2 64))) && decide ((IntKind.wrap .u8 (Int.tdiv n2 64)) < 4)) then
    bif (decide ((0 : Int) ≤ (Int.tmod n2 64))) then
      let n3 : Int := (Int.fdiv (PV.num (PV.fld p1 ((IntKind.wrap .u8 (Int.tdiv n2 64))).toNat)) (2 ^ (min ((Int.tmod n2 64)).toNat 64)))
      ret0 (decide ((intBit .and .u64 n3 1) = (1 : Int)))
    else none
  else none

theorem f31_e_mem (k : Nat) (retF : Bool → R) (p1 : PV) (n2 : Int) : exec (f31_E k) f31_code (endK (f31_E k) Try.f31 [] f31_un retF) ⟨[.val 24 p1, .int .u8 n2, .undef, .undef, .undef, .undef, .undef, .undef, .undef, .undef, .undef, .undef, .undef, .undef], []⟩ = f31_e (fun y0 => retF y0) p1 n2 := by kernel_rfl

noncomputable def f31_N (k : Nat) (ret0 : Bool → R) (p1 : PV) (n2 : Int) : R :=
  f31_e ret0 p1 n2
theorem f31_eq (k : Nat) (retF : Bool → R) (p1 : PV) (n2 : Int) : exec (f31_E k) f31_code (endK (f31_E k) Try.f31 [] f31_un retF) ⟨[.val 24 p1, .int .u8 n2, .undef, .undef, .undef, .undef, .undef, .undef, .undef, .undef, .undef, .undef, .undef, .undef], []⟩ = f31_N k (fun y0 => retF y0) p1 n2 :=
  (f31_e_mem k retF p1 n2)

noncomputable def G31 : Nat → PV → Int → (Bool → R) → R
  | 0, _, _, _ => none
  | k + 1, p1, n2, ret0 => f31_N k  ret0 p1 n2
theorem S31 : ∀ k, Snd Try.prog 31 f31_I f31_O (fun x ret => G31 k x.1 x.2 (fun y0 => ret y0))
  | 0 => snd_none
  | k + 1 => snd_step (E := f31_E k ) rfl laidOut noNums orc0_ok (f := 31) (fn := Try.f31) (code := f31_code) Try.func31 (by kernel_rfl) (drawsOk_of laidOut orc0_ok mixed (by kernel_rfl)) f31_un f31_un_ok [] (fun _ => rfl)
      (fun x ret => f31_eq k  ret x.1 x.2)

/- (*catchpole/lang.places).has -/
noncomputable def f97_I : PV × Int × (List HE) → List SV × Obs := fun x => ([.hval 114 x.1, .int .i64 x.2.1], [(1000000000000, .hp x.2.2)])
noncomputable def f97_D : List SV → Obs → Option (PV × Int × (List HE))
  | [.hval 114 p1, .int .i64 n2], [(1000000000000, .hp h3)] => some (p1, n2, h3)
  | _, _ => none
theorem f97_D_ok (args : List SV) (B : Obs) (x : PV × Int × (List HE)) (h : f97_D args B = some x) : f97_I x = (args, B) := by
  unfold f97_D at h
  split at h
  · injection h with h; subst h; rfl
  · cases h
noncomputable def f97_O : Bool × (List HE) → Out := (fun y => ([.bool y.1], [(1000000000000, .hp y.2)]))
noncomputable def f97_un : Out → Option (Bool × (List HE))
  | ([.bool y0], [(1000000000000, .hp y1)]) => some (y0, y1)
  | _ => none
theorem f97_un_ok (o : Out) (y : Bool × (List HE)) (h : f97_un o = some y) : o = f97_O y := by
  unfold f97_un at h
  split at h
  · injection h with h; subst h; rfl
  · cases h
noncomputable def f97_msk : Nat → Option (List Nat) := fun key =>  none
noncomputable def f97_C : Oracle := orc0
noncomputable def f97_E (k : Nat) : Env := { P := Try.prog, nilOwn := fun d => false, fldOwn := fun d i => false, ownPar := ownPars, ownRet := false, hpD := fun d => false, hpF := hpFs, hpNew := false, mask := f97_msk, fuel := k, C := f97_C }
noncomputable def f97_code : Code := Try.f97.body.getD .skip
noncomputable def f97_e (ret0 : Bool → (List HE) → R) (p1 : PV) (n2 : Int) (h3 : List HE) : R :=
  bif (PV.isRp p1) then
    bif (true && decide ((0 : Int) ≤ (IntKind.wrap .i64 (Int.tdiv n2 64))) && decide ((IntKind.wrap .i64 (Int.tdiv n2 64)) < 5)) then
      bif (true && true && (hokV h3 139 (PV.rI p1))) then
        bif (decide ((0 : Int) ≤ (Int.tmod n2 64))) then
          let n4 : Int := (Int.fdiv (PV.num (PV.fld (hvarOf h3 (PV.rI p1)) ((IntKind.wrap .i64 (Int.tdiv n2 64))).toNat)) (2 ^ (min ((Int.tmod n2 64)).toNat 64)))
          ret0 (decide ((intBit .and .u64 n4 1) = (1 : Int))) h3
        else none
      else none
    else none
  else none

theorem f97_e_mem (k : Nat) (retF : Bool × (List HE) → R) (p1 : PV) (n2 : Int) (h3 : List HE) : exec (f97_E k) f97_code (endK (f97_E k) Try.f97 [1000000000000] f97_un retF) ⟨[.hval 114 p1, .int .i64 n2, .undef, .undef, .undef, .undef, .undef, .undef, .undef, .undef, .undef, .undef, .undef, .undef, .undef, .undef], [(1000000000000, .hp h3)]⟩ = f97_e (fun y0 y1 => retF (y0, y1)) p1 n2 h3 := by kernel_rfl

noncomputable def f97_N (k : Nat) (ret0 : Bool → (List HE) → R) (p1 : PV) (n2 : Int) (h3 : List HE) : R :=
  f97_e ret0 p1 n2 h3
theorem f97_eq (k : Nat) (retF : Bool × (List HE) → R) (p1 : PV) (n2 : Int) (h3 : List HE) : exec (f97_E k) f97_code (endK (f97_E k) Try.f97 [1000000000000] f97_un retF) ⟨[.hval 114 p1, .int .i64 n2, .undef, .undef, .undef, .undef, .undef, .undef, .undef, .undef, .undef, .undef, .undef, .undef, .undef, .undef], [(1000000000000, .hp h3)]⟩ = f97_N k (fun y0 y1 => retF (y0, y1)) p1 n2 h3 :=
  (f97_e_mem k retF p1 n2 h3)

noncomputable def G97 : Nat → PV → Int → (List HE) → (Bool → (List HE) → R) → R
  | 0, _, _, _, _ => none
  | k + 1, p1, n2, h3, ret0 => f97_N k  ret0 p1 n2 h3
theorem S97 : ∀ k, Snd Try.prog 97 f97_I f97_O (fun x ret => G97 k x.1 x.2.1 x.2.2 (fun y0 y1 => ret (y0, y1)))
  | 0 => snd_none
  | k + 1 => snd_step (E := f97_E k ) rfl laidOut noNums orc0_ok (f := 97) (fn := Try.f97) (code := f97_code) Try.func97 (by kernel_rfl) (drawsOk_of laidOut orc0_ok mixed (by kernel_rfl)) f97_un f97_un_ok [1000000000000] (fun _ => rfl)
      (fun x ret => f97_eq k  ret x.1 x.2.1 x.2.2)

/- (*catchpole/lang.places).or -/
noncomputable def f114_I : PV × PV × (List HE) → List SV × Obs := fun x => ([.hval 114 x.1, .hval 114 x.2.1], [(1000000000000, .hp x.2.2)])
noncomputable def f114_D : List SV → Obs → Option (PV × PV × (List HE))
  | [.hval 114 p1, .hval 114 p2], [(1000000000000, .hp h3)] => some (p1, p2, h3)
  | _, _ => none
theorem f114_D_ok (args : List SV) (B : Obs) (x : PV × PV × (List HE)) (h : f114_D args B = some x) : f114_I x = (args, B) := by
  unfold f114_D at h
  split at h
  · injection h with h; subst h; rfl
  · cases h
noncomputable def f114_O : (List HE) → Out := (fun y => ([], [(1000000000000, .hp y)]))
noncomputable def f114_un : Out → Option ((List HE))
  | ([], [(1000000000000, .hp y0)]) => some y0
  | _ => none
theorem f114_un_ok (o : Out) (y : (List HE)) (h : f114_un o = some y) : o = f114_O y := by
  unfold f114_un at h
  split at h
  · injection h with h; subst h; rfl
  · cases h
noncomputable def f114_msk : Nat → Option (List Nat) := fun key => bif key == 3 then some [0, 1, 5] else none
noncomputable def f114_C : Oracle := orc0
noncomputable def f114_E (k : Nat) : Env := { P := Try.prog, nilOwn := fun d => false, fldOwn := fun d i => false, ownPar := ownPars, ownRet := false, hpD := fun d => false, hpF := hpFs, hpNew := false, mask := f114_msk, fuel := k, C := f114_C }
noncomputable def f114_code : Code := Try.f114.body.getD .skip
noncomputable def f114_cw1 : Code := subC f114_code [1, 0, 0]
noncomputable def f114_hw1_0 (p1 : PV) (p2 : PV) (n6 : Int) (h7 : List HE) : St := ⟨[.hval 114 p1, .hval 114 p2, .dead, .dead, .dead, .int .i64 n6, .dead, .dead, .dead, .dead, .dead, .dead, .dead, .dead, .dead, .dead, .dead, .dead, .dead, .dead, .dead, .dead], [(1000000000000, .hp h7)]⟩
noncomputable def f114_w1A (k : Nat) (retF : (List HE) → R) (p1 : PV) (p2 : PV) (n6 : Int) (h7 : List HE) : R := loopM (f114_E k) f114_cw1 (kont (f114_E k) f114_code [1, 0] (endK (f114_E k) Try.f114 [1000000000000] f114_un retF)) k (f114_hw1_0 p1 p2 n6 h7)
noncomputable def f114_w1b0 (ret0 : (List HE) → R) (next_w1_0 : Int → (List HE) → R) (p1 : PV) (p2 : PV) (n6 : Int) (h7 : List HE) : R :=
  bif (decide (n6 < (5 : Int))) then
    bif (PV.isRp p1) then
      bif (true && decide ((0 : Int) ≤ n6) && decide (n6 < 5)) then
        bif (true && true && (hokV h7 139 (PV.rI p1))) then
          bif (PV.isRp p2) then
            bif (true && decide ((0 : Int) ≤ n6) && decide (n6 < 5)) then
              bif (true && true && (hokV h7 139 (PV.rI p2))) then
                let n8 : Int := (intBit .or .u64 (PV.num (PV.fld (hvarOf h7 (PV.rI p1)) (n6).toNat)) (PV.num (PV.fld (hvarOf h7 (PV.rI p2)) (n6).toNat)))
                bif (PV.isRp p1) then
                  bif (true && decide ((0 : Int) ≤ n6) && decide (n6 < 5)) then
                    bif (true && (hokV h7 139 (PV.rI p1))) then
                      let h9 : List HE := (List.set h7 (PV.rI p1) (HE.var 139 (PV.agg (List.set (PV.flds (hvarOf h7 (PV.rI p1))) (n6).toNat (PV.int n8)))))
                      next_w1_0 (IntKind.wrap .i64 (n6 + (1 : Int))) h9
                    else none
                  else none
                else none
              else none
            else none
          else none
        else none
      else none
    else none
  else ret0 h7

theorem f114_w1b0_mem (k : Nat) (retF : (List HE) → R) (NX_w1 : St → R) (p1 : PV) (p2 : PV) (n6 : Int) (h7 : List HE) : exec (f114_E k) f114_cw1 (purgeK (f114_E k) f114_cw1 (loopK NX_w1 (kont (f114_E k) f114_code [1, 0] (endK (f114_E k) Try.f114 [1000000000000] f114_un retF)))) (f114_hw1_0 p1 p2 n6 h7) = f114_w1b0 (fun y0 => retF y0) (fun n6 h7 => NX_w1 (f114_hw1_0 p1 p2 n6 h7)) p1 p2 n6 h7 := by kernel_rfl

noncomputable def f114_w1b0N (k : Nat) (ret0 : (List HE) → R) (next_w1_0 : Int → (List HE) → R) (p1 : PV) (p2 : PV) (n6 : Int) (h7 : List HE) : R :=
  f114_w1b0 ret0 next_w1_0 p1 p2 n6 h7
theorem f114_w1b0_eq (k : Nat) (retF : (List HE) → R) (NX_w1 : St → R) (p1 : PV) (p2 : PV) (n6 : Int) (h7 : List HE) : exec (f114_E k) f114_cw1 (purgeK (f114_E k) f114_cw1 (loopK NX_w1 (kont (f114_E k) f114_code [1, 0] (endK (f114_E k) Try.f114 [1000000000000] f114_un retF)))) (f114_hw1_0 p1 p2 n6 h7) = f114_w1b0N k (fun y0 => retF y0) (fun n6 h7 => NX_w1 (f114_hw1_0 p1 p2 n6 h7)) p1 p2 n6 h7 :=
  (f114_w1b0_mem k retF NX_w1 p1 p2 n6 h7)

noncomputable def f114_w1B (k : Nat) (ret0 : (List HE) → R) (p1 : PV) (p2 : PV) (nx : Int × (List HE) → R) : Int × (List HE) → R := (fun s => f114_w1b0N k ret0 (fun n6 h7 => nx (n6, h7)) p1 p2 s.1 s.2)
noncomputable def f114_w1N (k : Nat) (ret0 : (List HE) → R) (p1 : PV) (p2 : PV) (n6 : Int) (h7 : List HE) : R := loopR (f114_w1B k ret0 p1 p2) k (n6, h7)
theorem f114_w1_eq (k : Nat) (retF : (List HE) → R) (p1 : PV) (p2 : PV) (n6 : Int) (h7 : List HE) : f114_w1A k retF p1 p2 n6 h7 = f114_w1N k (fun y0 => retF y0) p1 p2 n6 h7 :=
  Eq.mp (by kernel_rfl) (loop_sim (E := (f114_E k)) (c := f114_cw1) (K := (kont (f114_E k) f114_code [1, 0] (endK (f114_E k) Try.f114 [1000000000000] f114_un retF))) (S := Int × (List HE)) (fun s => f114_hw1_0 p1 p2 s.1 s.2) (f114_w1B k (fun y0 => retF y0) p1 p2) (fun NX s => by
    exact Eq.mp (by kernel_rfl) (f114_w1b0_eq k retF NX p1 p2 s.1 s.2)) k (n6, h7))

noncomputable def f114_e (ret0 : (List HE) → R) (w1 : Int → (List HE) → R) (p1 : PV) (p2 : PV) (h3 : List HE) : R :=
  w1 0 h3

theorem f114_e_mem (k : Nat) (retF : (List HE) → R) (p1 : PV) (p2 : PV) (h3 : List HE) : exec (f114_E k) f114_code (endK (f114_E k) Try.f114 [1000000000000] f114_un retF) ⟨[.hval 114 p1, .hval 114 p2, .undef, .undef, .undef, .undef, .undef, .undef, .undef, .undef, .undef, .undef, .undef, .undef, .undef, .undef, .undef, .undef, .undef, .undef, .undef, .undef], [(1000000000000, .hp h3)]⟩ = f114_e (fun y0 => retF y0) (fun n6 h7 => f114_w1A k retF p1 p2 n6 h7) p1 p2 h3 := by kernel_rfl

noncomputable def f114_N (k : Nat) (ret0 : (List HE) → R) (p1 : PV) (p2 : PV) (h3 : List HE) : R :=
  f114_e ret0 (fun n6 h7 => f114_w1N k ret0 p1 p2 n6 h7) p1 p2 h3
theorem f114_eq (k : Nat) (retF : (List HE) → R) (p1 : PV) (p2 : PV) (h3 : List HE) : exec (f114_E k) f114_code (endK (f114_E k) Try.f114 [1000000000000] f114_un retF) ⟨[.hval 114 p1, .hval 114 p2, .undef, .undef, .undef, .undef, .undef, .undef, .undef, .undef, .undef, .undef, .undef, .undef, .undef, .undef, .undef, .undef, .undef, .undef, .undef, .undef], [(1000000000000, .hp h3)]⟩ = f114_N k (fun y0 => retF y0) p1 p2 h3 :=
  (f114_e_mem k retF p1 p2 h3).trans (by rw [show (fun n6 h7 => f114_w1A k retF p1 p2 n6 h7) = (fun n6 h7 => f114_w1N k (fun y0 => retF y0) p1 p2 n6 h7) from funext fun n6 => funext fun h7 => f114_w1_eq k retF p1 p2 n6 h7]; rfl)

noncomputable def G114 : Nat → PV → PV → (List HE) → ((List HE) → R) → R
  | 0, _, _, _, _ => none
  | k + 1, p1, p2, h3, ret0 => f114_N k  ret0 p1 p2 h3
theorem S114 : ∀ k, Snd Try.prog 114 f114_I f114_O (fun x ret => G114 k x.1 x.2.1 x.2.2 (fun y0 => ret y0))
  | 0 => snd_none
  | k + 1 => snd_step (E := f114_E k ) rfl laidOut noNums orc0_ok (f := 114) (fn := Try.f114) (code := f114_code) Try.func114 (by kernel_rfl) (drawsOk_of laidOut orc0_ok mixed (by kernel_rfl)) f114_un f114_un_ok [1000000000000] (fun _ => rfl)
      (fun x ret => f114_eq k  ret x.1 x.2.1 x.2.2)

/- (*catchpole/lang.Table).row -/
noncomputable def f96_I : PV × Int × Int × (List HE) → List SV × Obs := fun x => ([.hval 76 x.1, .int .i64 x.2.1, .int .i64 x.2.2.1], [(1000000000000, .hp x.2.2.2)])
noncomputable def f96_D : List SV → Obs → Option (PV × Int × Int × (List HE))
  | [.hval 76 p1, .int .i64 n2, .int .i64 n3], [(1000000000000, .hp h4)] => some (p1, n2, n3, h4)
  | _, _ => none
theorem f96_D_ok (args : List SV) (B : Obs) (x : PV × Int × Int × (List HE)) (h : f96_D args B = some x) : f96_I x = (args, B) := by
  unfold f96_D at h
  split at h
  · injection h with h; subst h; rfl
  · cases h
noncomputable def f96_O : PV × (List HE) → Out := (fun y => ([.hval 114 y.1], [(1000000000000, .hp y.2)]))
noncomputable def f96_un : Out → Option (PV × (List HE))
  | ([.hval 114 y0], [(1000000000000, .hp y1)]) => some (y0, y1)
  | _ => none
theorem f96_un_ok (o : Out) (y : PV × (List HE)) (h : f96_un o = some y) : o = f96_O y := by
  unfold f96_un at h
  split at h
  · injection h with h; subst h; rfl
  · cases h
noncomputable def f96_msk : Nat → Option (List Nat) := fun key => bif key == 51 then some [0, 1, 2, 8, 9, 10, 11] else bif key == 81 then some [0, 1, 2, 8, 9, 12] else none
noncomputable def f96_C (c31 : PV → Int → (Bool → R) → R) (c96 : PV → Int → Int → (List HE) → (PV → (List HE) → R) → R) (c97 : PV → Int → (List HE) → (Bool → (List HE) → R) → R) (c113 : PV → Int → (List HE) → ((List HE) → R) → R) (c114 : PV → PV → (List HE) → ((List HE) → R) → R) : Oracle := orc 31 f31_D f31_O (fun x ret => c31 x.1 x.2 (fun y0 => ret y0)) <| orc 96 f96_D f96_O (fun x ret => c96 x.1 x.2.1 x.2.2.1 x.2.2.2 (fun y0 y1 => ret (y0, y1))) <| orc 97 f97_D f97_O (fun x ret => c97 x.1 x.2.1 x.2.2 (fun y0 y1 => ret (y0, y1))) <| orc 113 f113_D f113_O (fun x ret => c113 x.1 x.2.1 x.2.2 (fun y0 => ret y0)) <| orc 114 f114_D f114_O (fun x ret => c114 x.1 x.2.1 x.2.2 (fun y0 => ret y0)) <| orc0
noncomputable def f96_E (k : Nat) (c31 : PV → Int → (Bool → R) → R) (c96 : PV → Int → Int → (List HE) → (PV → (List HE) → R) → R) (c97 : PV → Int → (List HE) → (Bool → (List HE) → R) → R) (c113 : PV → Int → (List HE) → ((List HE) → R) → R) (c114 : PV → PV → (List HE) → ((List HE) → R) → R) : Env := { P := Try.prog, nilOwn := fun d => false, fldOwn := fun d i => false, ownPar := ownPars, ownRet := false, hpD := fun d => d == 32 || d == 48, hpF := hpFs, hpNew := false, mask := f96_msk, fuel := k, C := f96_C c31 c96 c97 c113 c114 }
noncomputable def f96_code : Code := Try.f96.body.getD .skip
noncomputable def f96_cw1 : Code := subC f96_code [1, 1, 1, 1, 1, 0, 1, 0, 1, 1, 1, 1, 1, 0, 1, 1, 0, 0]
noncomputable def f96_hw1_0 (p1 : PV) (n2 : Int) (n3 : Int) (h6 : List HE) (h8 : List HE) (p19 : PV) (n28 : Int) (h29 : List HE) : St := ⟨[.hval 76 p1, .int .i64 n2, .int .i64 n3, .dead, .dead, .dead, .dead, .dead, .hptr 139 (List.length h6) [], .hptr 118 (PV.rI (PV.fld (hvarOf h8 (PV.rI p1)) 0)) [.el n2], .hval 114 p19, .int .i64 n28, .dead, .dead, .dead, .dead, .dead, .dead, .dead, .dead, .dead, .dead, .dead, .dead, .dead, .dead, .dead, .dead, .dead, .dead, .dead, .dead, .dead, .dead, .dead, .dead, .dead, .dead, .dead, .dead, .dead, .dead, .dead, .dead, .dead, .dead, .dead, .dead, .dead, .dead, .dead, .dead, .dead, .dead, .dead, .dead, .dead, .dead, .dead, .dead, .dead, .dead, .dead, .dead, .dead, .dead, .dead, .dead, .dead, .dead, .dead, .dead, .dead, .dead, .dead, .dead, .dead, .dead, .dead, .dead, .dead, .dead, .dead, .dead, .dead, .dead, .dead, .dead, .dead, .dead, .dead, .dead, .dead, .dead, .dead, .dead, .dead, .dead, .dead, .dead, .dead, .dead, .dead, .dead, .dead, .dead, .dead, .dead, .dead, .dead, .dead, .dead, .dead, .dead, .dead, .dead, .dead, .dead, .dead, .dead, .dead, .dead, .dead, .dead, .dead, .dead, .dead, .dead, .dead, .dead, .dead, .dead, .dead, .dead, .dead, .dead, .dead, .dead, .dead, .dead, .dead, .dead, .dead, .dead, .dead, .dead, .dead, .dead, .dead, .dead, .dead, .dead, .dead, .dead, .dead, .dead, .dead, .dead, .dead, .dead, .dead, .dead, .dead, .dead, .dead, .dead, .dead, .dead, .dead, .dead, .dead, .dead, .dead, .dead, .dead, .dead, .dead, .dead, .dead, .dead, .dead, .dead, .dead, .dead, .dead, .dead, .dead, .dead, .dead, .dead, .dead, .dead, .dead, .dead, .dead, .dead, .dead, .dead, .dead, .dead, .dead, .dead, .dead, .dead, .dead, .dead], [(1000000000000, .hp h29)]⟩
noncomputable def f96_w1A (k : Nat) (c31 : PV → Int → (Bool → R) → R) (c96 : PV → Int → Int → (List HE) → (PV → (List HE) → R) → R) (c97 : PV → Int → (List HE) → (Bool → (List HE) → R) → R) (c113 : PV → Int → (List HE) → ((List HE) → R) → R) (c114 : PV → PV → (List HE) → ((List HE) → R) → R) (retF : PV × (List HE) → R) (p1 : PV) (n2 : Int) (n3 : Int) (h6 : List HE) (h8 : List HE) (p19 : PV) (n28 : Int) (h29 : List HE) : R := loopM (f96_E k c31 c96 c97 c113 c114) f96_cw1 (kont (f96_E k c31 c96 c97 c113 c114) f96_code [1, 1, 1, 1, 1, 0, 1, 0, 1, 1, 1, 1, 1, 0, 1, 1, 0] (endK (f96_E k c31 c96 c97 c113 c114) Try.f96 [1000000000000] f96_un retF)) k (f96_hw1_0 p1 n2 n3 h6 h8 p19 n28 h29)
noncomputable def f96_w1b0 (c31 : PV → Int → (Bool → R) → R) (c96 : PV → Int → Int → (List HE) → (PV → (List HE) → R) → R) (c97 : PV → Int → (List HE) → (Bool → (List HE) → R) → R) (c113 : PV → Int → (List HE) → ((List HE) → R) → R) (c114 : PV → PV → (List HE) → ((List HE) → R) → R) (ret0 : PV → (List HE) → R) (next_w1_0 : Int → (List HE) → R) (p1 : PV) (n2 : Int) (n3 : Int) (h6 : List HE) (h8 : List HE) (p19 : PV) (n28 : Int) (h29 : List HE) : R :=
  bif (PV.isRp p1) then
    bif (true && true && (hokV h29 86 (PV.rI p1))) then
      bif (decide (n28 ≤ (List.length (PV.els (PV.fld (hvarOf h29 (PV.rI p1)) 1)) : Int))) then
        c97 p19 n28 h29 fun b30 h31 =>
        bif b30 then
          bif (true && true && (hokR h31 118 (PV.rI (PV.fld (hvarOf h8 (PV.rI p1)) 0)) n2)) then
            bif (true && decide ((0 : Int) ≤ (1 : Int)) && decide ((1 : Int) < ((PV.rN (PV.fld (List.getD (hrowOf h31 (PV.rI (PV.fld (hvarOf h8 (PV.rI p1)) 0))) (n2).toNat PV.nil) 1)) : Int))) then
              bif (true && true && (hokR h31 3 (PV.rI (PV.fld (List.getD (hrowOf h31 (PV.rI (PV.fld (hvarOf h8 (PV.rI p1)) 0))) (n2).toNat PV.nil) 1)) (1 : Int))) then
                let n32 : Int := (PV.num (List.getD (hrowOf h31 (PV.rI (PV.fld (List.getD (hrowOf h31 (PV.rI (PV.fld (hvarOf h8 (PV.rI p1)) 0))) (n2).toNat PV.nil) 1))) ((1 : Int)).toNat PV.nil))
                c96 p1 n32 n28 h31 fun p33 h34 =>
                c114 (PV.rp (List.length h6)) p33 h34 fun h35 =>
                next_w1_0 (IntKind.wrap .i64 (n28 + (1 : Int))) h35
              else none
            else none
          else none
        else next_w1_0 (IntKind.wrap .i64 (n28 + (1 : Int))) h31
      else bif (PV.isRp p1) then
        bif (true && true && (hokV h29 86 (PV.rI p1))) then
          bif (true && decide ((0 : Int) ≤ n2) && decide (n2 < ((PV.rN (PV.fld (hvarOf h29 (PV.rI p1)) 2)) : Int))) then
            bif (true && true && (hokR h29 137 (PV.rI (PV.fld (hvarOf h29 (PV.rI p1)) 2)) n2)) then
              bif (true && decide ((0 : Int) ≤ n3) && decide (n3 < ((PV.rN (List.getD (hrowOf h29 (PV.rI (PV.fld (hvarOf h29 (PV.rI p1)) 2))) (n2).toNat PV.nil)) : Int))) then
                bif (true && (hokR h29 114 (PV.rI (List.getD (hrowOf h29 (PV.rI (PV.fld (hvarOf h29 (PV.rI p1)) 2))) (n2).toNat PV.nil)) n3)) then
                  let h36 : List HE := (List.set h29 (PV.rI (List.getD (hrowOf h29 (PV.rI (PV.fld (hvarOf h29 (PV.rI p1)) 2))) (n2).toNat PV.nil)) (HE.row 114 (List.set (hrowOf h29 (PV.rI (List.getD (hrowOf h29 (PV.rI (PV.fld (hvarOf h29 (PV.rI p1)) 2))) (n2).toNat PV.nil))) (n3).toNat (PV.rp (List.length h6)))))
                  ret0 (PV.rp (List.length h6)) h36
                else none
              else none
            else none
          else none
        else none
      else none
    else none
  else none

theorem f96_w1b0_mem (k : Nat) (c31 : PV → Int → (Bool → R) → R) (c96 : PV → Int → Int → (List HE) → (PV → (List HE) → R) → R) (c97 : PV → Int → (List HE) → (Bool → (List HE) → R) → R) (c113 : PV → Int → (List HE) → ((List HE) → R) → R) (c114 : PV → PV → (List HE) → ((List HE) → R) → R) (retF : PV × (List HE) → R) (NX_w1 : St → R) (p1 : PV) (n2 : Int) (n3 : Int) (h6 : List HE) (h8 : List HE) (p19 : PV) (n28 : Int) (h29 : List HE) : exec (f96_E k c31 c96 c97 c113 c114) f96_cw1 (purgeK (f96_E k c31 c96 c97 c113 c114) f96_cw1 (loopK NX_w1 (kont (f96_E k c31 c96 c97 c113 c114) f96_code [1, 1, 1, 1, 1, 0, 1, 0, 1, 1, 1, 1, 1, 0, 1, 1, 0] (endK (f96_E k c31 c96 c97 c113 c114) Try.f96 [1000000000000] f96_un retF)))) (f96_hw1_0 p1 n2 n3 h6 h8 p19 n28 h29) = f96_w1b0 c31 c96 c97 c113 c114 (fun y0 y1 => retF (y0, y1)) (fun n28 h29 => NX_w1 (f96_hw1_0 p1 n2 n3 h6 h8 p19 n28 h29)) p1 n2 n3 h6 h8 p19 n28 h29 := by kernel_rfl

noncomputable def f96_w1b0N (k : Nat) (c31 : PV → Int → (Bool → R) → R) (c96 : PV → Int → Int → (List HE) → (PV → (List HE) → R) → R) (c97 : PV → Int → (List HE) → (Bool → (List HE) → R) → R) (c113 : PV → Int → (List HE) → ((List HE) → R) → R) (c114 : PV → PV → (List HE) → ((List HE) → R) → R) (ret0 : PV → (List HE) → R) (next_w1_0 : Int → (List HE) → R) (p1 : PV) (n2 : Int) (n3 : Int) (h6 : List HE) (h8 : List HE) (p19 : PV) (n28 : Int) (h29 : List HE) : R :=
  f96_w1b0 c31 c96 c97 c113 c114 ret0 next_w1_0 p1 n2 n3 h6 h8 p19 n28 h29
theorem f96_w1b0_eq (k : Nat) (c31 : PV → Int → (Bool → R) → R) (c96 : PV → Int → Int → (List HE) → (PV → (List HE) → R) → R) (c97 : PV → Int → (List HE) → (Bool → (List HE) → R) → R) (c113 : PV → Int → (List HE) → ((List HE) → R) → R) (c114 : PV → PV → (List HE) → ((List HE) → R) → R) (retF : PV × (List HE) → R) (NX_w1 : St → R) (p1 : PV) (n2 : Int) (n3 : Int) (h6 : List HE) (h8 : List HE) (p19 : PV) (n28 : Int) (h29 : List HE) : exec (f96_E k c31 c96 c97 c113 c114) f96_cw1 (purgeK (f96_E k c31 c96 c97 c113 c114) f96_cw1 (loopK NX_w1 (kont (f96_E k c31 c96 c97 c113 c114) f96_code [1, 1, 1, 1, 1, 0, 1, 0, 1, 1, 1, 1, 1, 0, 1, 1, 0] (endK (f96_E k c31 c96 c97 c113 c114) Try.f96 [1000000000000] f96_un retF)))) (f96_hw1_0 p1 n2 n3 h6 h8 p19 n28 h29) = f96_w1b0N k c31 c96 c97 c113 c114 (fun y0 y1 => retF (y0, y1)) (fun n28 h29 => NX_w1 (f96_hw1_0 p1 n2 n3 h6 h8 p19 n28 h29)) p1 n2 n3 h6 h8 p19 n28 h29 :=
  (f96_w1b0_mem k c31 c96 c97 c113 c114 retF NX_w1 p1 n2 n3 h6 h8 p19 n28 h29)

noncomputable def f96_w1B (k : Nat) (c31 : PV → Int → (Bool → R) → R) (c96 : PV → Int → Int → (List HE) → (PV → (List HE) → R) → R) (c97 : PV → Int → (List HE) → (Bool → (List HE) → R) → R) (c113 : PV → Int → (List HE) → ((List HE) → R) → R) (c114 : PV → PV → (List HE) → ((List HE) → R) → R) (ret0 : PV → (List HE) → R) (p1 : PV) (n2 : Int) (n3 : Int) (h6 : List HE) (h8 : List HE) (p19 : PV) (nx : Int × (List HE) → R) : Int × (List HE) → R := (fun s => f96_w1b0N k c31 c96 c97 c113 c114 ret0 (fun n28 h29 => nx (n28, h29)) p1 n2 n3 h6 h8 p19 s.1 s.2)
noncomputable def f96_w1N (k : Nat) (c31 : PV → Int → (Bool → R) → R) (c96 : PV → Int → Int → (List HE) → (PV → (List HE) → R) → R) (c97 : PV → Int → (List HE) → (Bool → (List HE) → R) → R) (c113 : PV → Int → (List HE) → ((List HE) → R) → R) (c114 : PV → PV → (List HE) → ((List HE) → R) → R) (ret0 : PV → (List HE) → R) (p1 : PV) (n2 : Int) (n3 : Int) (h6 : List HE) (h8 : List HE) (p19 : PV) (n28 : Int) (h29 : List HE) : R := loopR (f96_w1B k c31 c96 c97 c113 c114 ret0 p1 n2 n3 h6 h8 p19) k (n28, h29)
theorem f96_w1_eq (k : Nat) (c31 : PV → Int → (Bool → R) → R) (c96 : PV → Int → Int → (List HE) → (PV → (List HE) → R) → R) (c97 : PV → Int → (List HE) → (Bool → (List HE) → R) → R) (c113 : PV → Int → (List HE) → ((List HE) → R) → R) (c114 : PV → PV → (List HE) → ((List HE) → R) → R) (retF : PV × (List HE) → R) (p1 : PV) (n2 : Int) (n3 : Int) (h6 : List HE) (h8 : List HE) (p19 : PV) (n28 : Int) (h29 : List HE) : f96_w1A k c31 c96 c97 c113 c114 retF p1 n2 n3 h6 h8 p19 n28 h29 = f96_w1N k c31 c96 c97 c113 c114 (fun y0 y1 => retF (y0, y1)) p1 n2 n3 h6 h8 p19 n28 h29 :=
  Eq.mp (by kernel_rfl) (loop_sim (E := (f96_E k c31 c96 c97 c113 c114)) (c := f96_cw1) (K := (kont (f96_E k c31 c96 c97 c113 c114) f96_code [1, 1, 1, 1, 1, 0, 1, 0, 1, 1, 1, 1, 1, 0, 1, 1, 0] (endK (f96_E k c31 c96 c97 c113 c114) Try.f96 [1000000000000] f96_un retF))) (S := Int × (List HE)) (fun s => f96_hw1_0 p1 n2 n3 h6 h8 p19 s.1 s.2) (f96_w1B k c31 c96 c97 c113 c114 (fun y0 y1 => retF (y0, y1)) p1 n2 n3 h6 h8 p19) (fun NX s => by
    exact Eq.mp (by kernel_rfl) (f96_w1b0_eq k c31 c96 c97 c113 c114 retF NX p1 n2 n3 h6 h8 p19 s.1 s.2)) k (n28, h29))

noncomputable def f96_cw2 : Code := subC f96_code [1, 1, 1, 1, 1, 0, 1, 0, 1, 1, 1, 1, 1, 1, 1, 1, 1, 0, 1, 1, 0, 0]
noncomputable def f96_hw2_0 (p1 : PV) (n2 : Int) (n3 : Int) (h6 : List HE) (h8 : List HE) (n54 : Int) (h55 : List HE) : St := ⟨[.hval 76 p1, .int .i64 n2, .int .i64 n3, .dead, .dead, .dead, .dead, .dead, .hptr 139 (List.length h6) [], .hptr 118 (PV.rI (PV.fld (hvarOf h8 (PV.rI p1)) 0)) [.el n2], .dead, .dead, .int .i64 n54, .dead, .dead, .dead, .dead, .dead, .dead, .dead, .dead, .dead, .dead, .dead, .dead, .dead, .dead, .dead, .dead, .dead, .dead, .dead, .dead, .dead, .dead, .dead, .dead, .dead, .dead, .dead, .dead, .dead, .dead, .dead, .dead, .dead, .dead, .dead, .dead, .dead, .dead, .dead, .dead, .dead, .dead, .dead, .dead, .dead, .dead, .dead, .dead, .dead, .dead, .dead, .dead, .dead, .dead, .dead, .dead, .dead, .dead, .dead, .dead, .dead, .dead, .dead, .dead, .dead, .dead, .dead, .dead, .dead, .dead, .dead, .dead, .dead, .dead, .dead, .dead, .dead, .dead, .dead, .dead, .dead, .dead, .dead, .dead, .dead, .dead, .dead, .dead, .dead, .dead, .dead, .dead, .dead, .dead, .dead, .dead, .dead, .dead, .dead, .dead, .dead, .dead, .dead, .dead, .dead, .dead, .dead, .dead, .dead, .dead, .dead, .dead, .dead, .dead, .dead, .dead, .dead, .dead, .dead, .dead, .dead, .dead, .dead, .dead, .dead, .dead, .dead, .dead, .dead, .dead, .dead, .dead, .dead, .dead, .dead, .dead, .dead, .dead, .dead, .dead, .dead, .dead, .dead, .dead, .dead, .dead, .dead, .dead, .dead, .dead, .dead, .dead, .dead, .dead, .dead, .dead, .dead, .dead, .dead, .dead, .dead, .dead, .dead, .dead, .dead, .dead, .dead, .dead, .dead, .dead, .dead, .dead, .dead, .dead, .dead, .dead, .dead, .dead, .dead, .dead, .dead, .dead, .dead, .dead, .dead, .dead, .dead, .dead, .dead, .dead, .dead, .dead, .dead], [(1000000000000, .hp h55)]⟩
noncomputable def f96_w2A (k : Nat) (c31 : PV → Int → (Bool → R) → R) (c96 : PV → Int → Int → (List HE) → (PV → (List HE) → R) → R) (c97 : PV → Int → (List HE) → (Bool → (List HE) → R) → R) (c113 : PV → Int → (List HE) → ((List HE) → R) → R) (c114 : PV → PV → (List HE) → ((List HE) → R) → R) (retF : PV × (List HE) → R) (p1 : PV) (n2 : Int) (n3 : Int) (h6 : List HE) (h8 : List HE) (n54 : Int) (h55 : List HE) : R := loopM (f96_E k c31 c96 c97 c113 c114) f96_cw2 (kont (f96_E k c31 c96 c97 c113 c114) f96_code [1, 1, 1, 1, 1, 0, 1, 0, 1, 1, 1, 1, 1, 1, 1, 1, 1, 0, 1, 1, 0] (endK (f96_E k c31 c96 c97 c113 c114) Try.f96 [1000000000000] f96_un retF)) k (f96_hw2_0 p1 n2 n3 h6 h8 n54 h55)
noncomputable def f96_w2b0 (c31 : PV → Int → (Bool → R) → R) (c96 : PV → Int → Int → (List HE) → (PV → (List HE) → R) → R) (c97 : PV → Int → (List HE) → (Bool → (List HE) → R) → R) (c113 : PV → Int → (List HE) → ((List HE) → R) → R) (c114 : PV → PV → (List HE) → ((List HE) → R) → R) (ret0 : PV → (List HE) → R) (next_w2_0 : Int → (List HE) → R) (p1 : PV) (n2 : Int) (n3 : Int) (h6 : List HE) (h8 : List HE) (n54 : Int) (h55 : List HE) : R :=
  bif (PV.isRp p1) then
    bif (true && true && (hokV h55 86 (PV.rI p1))) then
      bif (decide (n54 ≤ (List.length (PV.els (PV.fld (hvarOf h55 (PV.rI p1)) 1)) : Int))) then
        c97 (PV.rp (List.length h6)) n54 h55 fun b56 h57 =>
        bif b56 then
          bif (true && true && (hokR h57 118 (PV.rI (PV.fld (hvarOf h8 (PV.rI p1)) 0)) n2)) then
            bif (true && decide ((0 : Int) ≤ (0 : Int)) && decide ((0 : Int) < ((PV.rN (PV.fld (List.getD (hrowOf h57 (PV.rI (PV.fld (hvarOf h8 (PV.rI p1)) 0))) (n2).toNat PV.nil) 1)) : Int))) then
              bif (true && true && (hokR h57 3 (PV.rI (PV.fld (List.getD (hrowOf h57 (PV.rI (PV.fld (hvarOf h8 (PV.rI p1)) 0))) (n2).toNat PV.nil) 1)) (0 : Int))) then
                let n58 : Int := (PV.num (List.getD (hrowOf h57 (PV.rI (PV.fld (List.getD (hrowOf h57 (PV.rI (PV.fld (hvarOf h8 (PV.rI p1)) 0))) (n2).toNat PV.nil) 1))) ((0 : Int)).toNat PV.nil))
                c96 p1 n58 n54 h57 fun p59 h60 =>
                c114 (PV.rp (List.length h6)) p59 h60 fun h61 =>
                next_w2_0 (IntKind.wrap .i64 (n54 + (1 : Int))) h61
              else none
            else none
          else none
        else next_w2_0 (IntKind.wrap .i64 (n54 + (1 : Int))) h57
      else bif (PV.isRp p1) then
        bif (true && true && (hokV h55 86 (PV.rI p1))) then
          bif (true && decide ((0 : Int) ≤ n2) && decide (n2 < ((PV.rN (PV.fld (hvarOf h55 (PV.rI p1)) 2)) : Int))) then
            bif (true && true && (hokR h55 137 (PV.rI (PV.fld (hvarOf h55 (PV.rI p1)) 2)) n2)) then
              bif (true && decide ((0 : Int) ≤ n3) && decide (n3 < ((PV.rN (List.getD (hrowOf h55 (PV.rI (PV.fld (hvarOf h55 (PV.rI p1)) 2))) (n2).toNat PV.nil)) : Int))) then
                bif (true && (hokR h55 114 (PV.rI (List.getD (hrowOf h55 (PV.rI (PV.fld (hvarOf h55 (PV.rI p1)) 2))) (n2).toNat PV.nil)) n3)) then
                  let h62 : List HE := (List.set h55 (PV.rI (List.getD (hrowOf h55 (PV.rI (PV.fld (hvarOf h55 (PV.rI p1)) 2))) (n2).toNat PV.nil)) (HE.row 114 (List.set (hrowOf h55 (PV.rI (List.getD (hrowOf h55 (PV.rI (PV.fld (hvarOf h55 (PV.rI p1)) 2))) (n2).toNat PV.nil))) (n3).toNat (PV.rp (List.length h6)))))
                  ret0 (PV.rp (List.length h6)) h62
                else none
              else none
            else none
          else none
        else none
      else none
    else none
  else none

theorem f96_w2b0_mem (k : Nat) (c31 : PV → Int → (Bool → R) → R) (c96 : PV → Int → Int → (List HE) → (PV → (List HE) → R) → R) (c97 : PV → Int → (List HE) → (Bool → (List HE) → R) → R) (c113 : PV → Int → (List HE) → ((List HE) → R) → R) (c114 : PV → PV → (List HE) → ((List HE) → R) → R) (retF : PV × (List HE) → R) (NX_w2 : St → R) (p1 : PV) (n2 : Int) (n3 : Int) (h6 : List HE) (h8 : List HE) (n54 : Int) (h55 : List HE) : exec (f96_E k c31 c96 c97 c113 c114) f96_cw2 (purgeK (f96_E k c31 c96 c97 c113 c114) f96_cw2 (loopK NX_w2 (kont (f96_E k c31 c96 c97 c113 c114) f96_code [1, 1, 1, 1, 1, 0, 1, 0, 1, 1, 1, 1, 1, 1, 1, 1, 1, 0, 1, 1, 0] (endK (f96_E k c31 c96 c97 c113 c114) Try.f96 [1000000000000] f96_un retF)))) (f96_hw2_0 p1 n2 n3 h6 h8 n54 h55) = f96_w2b0 c31 c96 c97 c113 c114 (fun y0 y1 => retF (y0, y1)) (fun n54 h55 => NX_w2 (f96_hw2_0 p1 n2 n3 h6 h8 n54 h55)) p1 n2 n3 h6 h8 n54 h55 := by kernel_rfl

noncomputable def f96_w2b0N (k : Nat) (c31 : PV → Int → (Bool → R) → R) (c96 : PV → Int → Int → (List HE) → (PV → (List HE) → R) → R) (c97 : PV → Int → (List HE) → (Bool → (List HE) → R) → R) (c113 : PV → Int → (List HE) → ((List HE) → R) → R) (c114 : PV → PV → (List HE) → ((List HE) → R) → R) (ret0 : PV → (List HE) → R) (next_w2_0 : Int → (List HE) → R) (p1 : PV) (n2 : Int) (n3 : Int) (h6 : List HE) (h8 : List HE) (n54 : Int) (h55 : List HE) : R :=
  f96_w2b0 c31 c96 c97 c113 c114 ret0 next_w2_0 p1 n2 n3 h6 h8 n54 h55
theorem f96_w2b0_eq (k : Nat) (c31 : PV → Int → (Bool → R) → R) (c96 : PV → Int → Int → (List HE) → (PV → (List HE) → R) → R) (c97 : PV → Int → (List HE) → (Bool → (List HE) → R) → R) (c113 : PV → Int → (List HE) → ((List HE) → R) → R) (c114 : PV → PV → (List HE) → ((List HE) → R) → R) (retF : PV × (List HE) → R) (NX_w2 : St → R) (p1 : PV) (n2 : Int) (n3 : Int) (h6 : List HE) (h8 : List HE) (n54 : Int) (h55 : List HE) : exec (f96_E k c31 c96 c97 c113 c114) f96_cw2 (purgeK (f96_E k c31 c96 c97 c113 c114) f96_cw2 (loopK NX_w2 (kont (f96_E k c31 c96 c97 c113 c114) f96_code [1, 1, 1, 1, 1, 0, 1, 0, 1, 1, 1, 1, 1, 1, 1, 1, 1, 0, 1, 1, 0] (endK (f96_E k c31 c96 c97 c113 c114) Try.f96 [1000000000000] f96_un retF)))) (f96_hw2_0 p1 n2 n3 h6 h8 n54 h55) = f96_w2b0N k c31 c96 c97 c113 c114 (fun y0 y1 => retF (y0, y1)) (fun n54 h55 => NX_w2 (f96_hw2_0 p1 n2 n3 h6 h8 n54 h55)) p1 n2 n3 h6 h8 n54 h55 :=
  (f96_w2b0_mem k c31 c96 c97 c113 c114 retF NX_w2 p1 n2 n3 h6 h8 n54 h55)

noncomputable def f96_w2B (k : Nat) (c31 : PV → Int → (Bool → R) → R) (c96 : PV → Int → Int → (List HE) → (PV → (List HE) → R) → R) (c97 : PV → Int → (List HE) → (Bool → (List HE) → R) → R) (c113 : PV → Int → (List HE) → ((List HE) → R) → R) (c114 : PV → PV → (List HE) → ((List HE) → R) → R) (ret0 : PV → (List HE) → R) (p1 : PV) (n2 : Int) (n3 : Int) (h6 : List HE) (h8 : List HE) (nx : Int × (List HE) → R) : Int × (List HE) → R := (fun s => f96_w2b0N k c31 c96 c97 c113 c114 ret0 (fun n54 h55 => nx (n54, h55)) p1 n2 n3 h6 h8 s.1 s.2)
noncomputable def f96_w2N (k : Nat) (c31 : PV → Int → (Bool → R) → R) (c96 : PV → Int → Int → (List HE) → (PV → (List HE) → R) → R) (c97 : PV → Int → (List HE) → (Bool → (List HE) → R) → R) (c113 : PV → Int → (List HE) → ((List HE) → R) → R) (c114 : PV → PV → (List HE) → ((List HE) → R) → R) (ret0 : PV → (List HE) → R) (p1 : PV) (n2 : Int) (n3 : Int) (h6 : List HE) (h8 : List HE) (n54 : Int) (h55 : List HE) : R := loopR (f96_w2B k c31 c96 c97 c113 c114 ret0 p1 n2 n3 h6 h8) k (n54, h55)
theorem f96_w2_eq (k : Nat) (c31 : PV → Int → (Bool → R) → R) (c96 : PV → Int → Int → (List HE) → (PV → (List HE) → R) → R) (c97 : PV → Int → (List HE) → (Bool → (List HE) → R) → R) (c113 : PV → Int → (List HE) → ((List HE) → R) → R) (c114 : PV → PV → (List HE) → ((List HE) → R) → R) (retF : PV × (List HE) → R) (p1 : PV) (n2 : Int) (n3 : Int) (h6 : List HE) (h8 : List HE) (n54 : Int) (h55 : List HE) : f96_w2A k c31 c96 c97 c113 c114 retF p1 n2 n3 h6 h8 n54 h55 = f96_w2N k c31 c96 c97 c113 c114 (fun y0 y1 => retF (y0, y1)) p1 n2 n3 h6 h8 n54 h55 :=
  Eq.mp (by kernel_rfl) (loop_sim (E := (f96_E k c31 c96 c97 c113 c114)) (c := f96_cw2) (K := (kont (f96_E k c31 c96 c97 c113 c114) f96_code [1, 1, 1, 1, 1, 0, 1, 0, 1, 1, 1, 1, 1, 1, 1, 1, 1, 0, 1, 1, 0] (endK (f96_E k c31 c96 c97 c113 c114) Try.f96 [1000000000000] f96_un retF))) (S := Int × (List HE)) (fun s => f96_hw2_0 p1 n2 n3 h6 h8 s.1 s.2) (f96_w2B k c31 c96 c97 c113 c114 (fun y0 y1 => retF (y0, y1)) p1 n2 n3 h6 h8) (fun NX s => by
    exact Eq.mp (by kernel_rfl) (f96_w2b0_eq k c31 c96 c97 c113 c114 retF NX p1 n2 n3 h6 h8 s.1 s.2)) k (n54, h55))

noncomputable def f96_e (c31 : PV → Int → (Bool → R) → R) (c96 : PV → Int → Int → (List HE) → (PV → (List HE) → R) → R) (c97 : PV → Int → (List HE) → (Bool → (List HE) → R) → R) (c113 : PV → Int → (List HE) → ((List HE) → R) → R) (c114 : PV → PV → (List HE) → ((List HE) → R) → R) (ret0 : PV → (List HE) → R) (w1 : (List HE) → (List HE) → PV → Int → (List HE) → R) (w2 : (List HE) → (List HE) → Int → (List HE) → R) (p1 : PV) (n2 : Int) (n3 : Int) (h4 : List HE) : R :=
  bif (PV.isRp p1) then
    bif (true && true && (hokV h4 86 (PV.rI p1))) then
      bif (true && decide ((0 : Int) ≤ n2) && decide (n2 < ((PV.rN (PV.fld (hvarOf h4 (PV.rI p1)) 2)) : Int))) then
        bif (true && true && (hokR h4 137 (PV.rI (PV.fld (hvarOf h4 (PV.rI p1)) 2)) n2)) then
          bif (!(PV.isRs (List.getD (hrowOf h4 (PV.rI (PV.fld (hvarOf h4 (PV.rI p1)) 2))) (n2).toNat PV.nil))) then
            bif (PV.isRp p1) then
              bif (true && true && (hokV h4 86 (PV.rI p1))) then
                bif (PV.isRp p1) then
                  bif (true && true && (hokV h4 86 (PV.rI p1))) then
                    bif (true && (true && decide ((0 : Int) ≤ (IntKind.wrap .i64 ((List.length (PV.els (PV.fld (hvarOf h4 (PV.rI p1)) 1)) : Int) + (1 : Int)))) && decide ((IntKind.wrap .i64 ((List.length (PV.els (PV.fld (hvarOf h4 (PV.rI p1)) 1)) : Int) + (1 : Int))) = (IntKind.wrap .i64 ((List.length (PV.els (PV.fld (hvarOf h4 (PV.rI p1)) 1)) : Int) + (1 : Int)))) && roomy ((IntKind.wrap .i64 ((List.length (PV.els (PV.fld (hvarOf h4 (PV.rI p1)) 1)) : Int) + (1 : Int)))).toNat 8)) then
                      bif (true && decide ((0 : Int) ≤ n2) && decide (n2 < ((PV.rN (PV.fld (hvarOf h4 (PV.rI p1)) 2)) : Int))) then
                        let h5 : List HE := (h4 ++ [HE.row 114 (List.replicate ((IntKind.wrap .i64 ((List.length (PV.els (PV.fld (hvarOf h4 (PV.rI p1)) 1)) : Int) + (1 : Int)))).toNat PV.nil)])
                        bif (true && (hokR h5 137 (PV.rI (PV.fld (hvarOf h4 (PV.rI p1)) 2)) n2)) then
                          let h6 : List HE := (List.set h5 (PV.rI (PV.fld (hvarOf h4 (PV.rI p1)) 2)) (HE.row 137 (List.set (hrowOf h5 (PV.rI (PV.fld (hvarOf h4 (PV.rI p1)) 2))) (n2).toNat (PV.rs (List.length h4) ((IntKind.wrap .i64 ((List.length (PV.els (PV.fld (hvarOf h4 (PV.rI p1)) 1)) : Int) + (1 : Int)))).toNat))))
                          bif (PV.isRp p1) then
                            bif (true && true && (hokV h6 86 (PV.rI p1))) then
                              bif (true && decide ((0 : Int) ≤ n2) && decide (n2 < ((PV.rN (PV.fld (hvarOf h6 (PV.rI p1)) 2)) : Int))) then
                                bif (true && true && (hokR h6 137 (PV.rI (PV.fld (hvarOf h6 (PV.rI p1)) 2)) n2)) then
                                  bif (true && decide ((0 : Int) ≤ n3) && decide (n3 < ((PV.rN (List.getD (hrowOf h6 (PV.rI (PV.fld (hvarOf h6 (PV.rI p1)) 2))) (n2).toNat PV.nil)) : Int))) then
                                    bif (true && true && (hokR h6 114 (PV.rI (List.getD (hrowOf h6 (PV.rI (PV.fld (hvarOf h6 (PV.rI p1)) 2))) (n2).toNat PV.nil)) n3)) then
                                      let p7 : PV := (List.getD (hrowOf h6 (PV.rI (List.getD (hrowOf h6 (PV.rI (PV.fld (hvarOf h6 (PV.rI p1)) 2))) (n2).toNat PV.nil))) (n3).toNat PV.nil)
                                      bif (!(PV.isNil p7)) then
                                        ret0 p7 h6
                                      else let h8 : List HE := (h6 ++ [HE.var 139 (PV.agg [(PV.int 0), (PV.int 0), (PV.int 0), (PV.int 0), (PV.int 0)])])
                                      bif (PV.isRp p1) then
                                        bif (true && true && (hokV h8 86 (PV.rI p1))) then
                                          bif (true && decide ((0 : Int) ≤ n2) && decide (n2 < ((PV.rN (PV.fld (hvarOf h8 (PV.rI p1)) 0)) : Int))) then
                                            bif (true && true && (hokR h8 118 (PV.rI (PV.fld (hvarOf h8 (PV.rI p1)) 0)) n2)) then
                                              let n9 : Int := (PV.num (PV.fld (PV.fld (List.getD (hrowOf h8 (PV.rI (PV.fld (hvarOf h8 (PV.rI p1)) 0))) (n2).toNat PV.nil) 0) 0))
                                              bif (decide (n9 = (1 : Int))) then
                                                c113 (PV.rp (List.length h6)) n3 h8 fun h10 =>
                                                bif (PV.isRp p1) then
                                                  bif (true && true && (hokV h10 86 (PV.rI p1))) then
                                                    bif (true && decide ((0 : Int) ≤ n2) && decide (n2 < ((PV.rN (PV.fld (hvarOf h10 (PV.rI p1)) 2)) : Int))) then
                                                      bif (true && true && (hokR h10 137 (PV.rI (PV.fld (hvarOf h10 (PV.rI p1)) 2)) n2)) then
                                                        bif (true && decide ((0 : Int) ≤ n3) && decide (n3 < ((PV.rN (List.getD (hrowOf h10 (PV.rI (PV.fld (hvarOf h10 (PV.rI p1)) 2))) (n2).toNat PV.nil)) : Int))) then
                                                          bif (true && (hokR h10 114 (PV.rI (List.getD (hrowOf h10 (PV.rI (PV.fld (hvarOf h10 (PV.rI p1)) 2))) (n2).toNat PV.nil)) n3)) then
                                                            let h11 : List HE := (List.set h10 (PV.rI (List.getD (hrowOf h10 (PV.rI (PV.fld (hvarOf h10 (PV.rI p1)) 2))) (n2).toNat PV.nil)) (HE.row 114 (List.set (hrowOf h10 (PV.rI (List.getD (hrowOf h10 (PV.rI (PV.fld (hvarOf h10 (PV.rI p1)) 2))) (n2).toNat PV.nil))) (n3).toNat (PV.rp (List.length h6)))))
                                                            ret0 (PV.rp (List.length h6)) h11
                                                          else none
                                                        else none
                                                      else none
                                                    else none
                                                  else none
                                                else none
                                              else bif (decide (n9 = (2 : Int))) then
                                                bif (PV.isRp p1) then
                                                  bif (true && true && (hokV h8 86 (PV.rI p1))) then
                                                    bif ((decide (n3 < (List.length (PV.els (PV.fld (hvarOf h8 (PV.rI p1)) 1)) : Int))) == true) then
                                                      bif (true && true && (hokR h8 118 (PV.rI (PV.fld (hvarOf h8 (PV.rI p1)) 0)) n2)) then
                                                        let p12 : PV := (PV.fld (PV.fld (List.getD (hrowOf h8 (PV.rI (PV.fld (hvarOf h8 (PV.rI p1)) 0))) (n2).toNat PV.nil) 0) 1)
                                                        bif (PV.isRp p1) then
                                                          bif (true && true && (hokV h8 86 (PV.rI p1))) then
                                                            bif (true && decide ((0 : Int) ≤ n3) && decide (n3 < (List.length (PV.els (PV.fld (hvarOf h8 (PV.rI p1)) 1)) : Int))) then
                                                              c31 p12 (PV.num (List.getD (PV.els (PV.fld (hvarOf h8 (PV.rI p1)) 1)) (n3).toNat PV.nil)) fun b13 =>
                                                              bif b13 then
                                                                c113 (PV.rp (List.length h6)) (IntKind.wrap .i64 (n3 + (1 : Int))) h8 fun h14 =>
                                                                bif (PV.isRp p1) then
                                                                  bif (true && true && (hokV h14 86 (PV.rI p1))) then
                                                                    bif (true && decide ((0 : Int) ≤ n2) && decide (n2 < ((PV.rN (PV.fld (hvarOf h14 (PV.rI p1)) 2)) : Int))) then
                                                                      bif (true && true && (hokR h14 137 (PV.rI (PV.fld (hvarOf h14 (PV.rI p1)) 2)) n2)) then
                                                                        bif (true && decide ((0 : Int) ≤ n3) && decide (n3 < ((PV.rN (List.getD (hrowOf h14 (PV.rI (PV.fld (hvarOf h14 (PV.rI p1)) 2))) (n2).toNat PV.nil)) : Int))) then
                                                                          bif (true && (hokR h14 114 (PV.rI (List.getD (hrowOf h14 (PV.rI (PV.fld (hvarOf h14 (PV.rI p1)) 2))) (n2).toNat PV.nil)) n3)) then
                                                                            let h15 : List HE := (List.set h14 (PV.rI (List.getD (hrowOf h14 (PV.rI (PV.fld (hvarOf h14 (PV.rI p1)) 2))) (n2).toNat PV.nil)) (HE.row 114 (List.set (hrowOf h14 (PV.rI (List.getD (hrowOf h14 (PV.rI (PV.fld (hvarOf h14 (PV.rI p1)) 2))) (n2).toNat PV.nil))) (n3).toNat (PV.rp (List.length h6)))))
                                                                            ret0 (PV.rp (List.length h6)) h15
                                                                          else none
                                                                        else none
                                                                      else none
                                                                    else none
                                                                  else none
                                                                else none
                                                              else bif (PV.isRp p1) then
                                                                bif (true && true && (hokV h8 86 (PV.rI p1))) then
                                                                  bif (true && decide ((0 : Int) ≤ n2) && decide (n2 < ((PV.rN (PV.fld (hvarOf h8 (PV.rI p1)) 2)) : Int))) then
                                                                    bif (true && true && (hokR h8 137 (PV.rI (PV.fld (hvarOf h8 (PV.rI p1)) 2)) n2)) then
                                                                      bif (true && decide ((0 : Int) ≤ n3) && decide (n3 < ((PV.rN (List.getD (hrowOf h8 (PV.rI (PV.fld (hvarOf h8 (PV.rI p1)) 2))) (n2).toNat PV.nil)) : Int))) then
                                                                        bif (true && (hokR h8 114 (PV.rI (List.getD (hrowOf h8 (PV.rI (PV.fld (hvarOf h8 (PV.rI p1)) 2))) (n2).toNat PV.nil)) n3)) then
                                                                          let h16 : List HE := (List.set h8 (PV.rI (List.getD (hrowOf h8 (PV.rI (PV.fld (hvarOf h8 (PV.rI p1)) 2))) (n2).toNat PV.nil)) (HE.row 114 (List.set (hrowOf h8 (PV.rI (List.getD (hrowOf h8 (PV.rI (PV.fld (hvarOf h8 (PV.rI p1)) 2))) (n2).toNat PV.nil))) (n3).toNat (PV.rp (List.length h6)))))
                                                                          ret0 (PV.rp (List.length h6)) h16
                                                                        else none
                                                                      else none
                                                                    else none
                                                                  else none
                                                                else none
                                                              else none
                                                            else none
                                                          else none
                                                        else none
                                                      else none
                                                    else bif (PV.isRp p1) then
                                                      bif (true && true && (hokV h8 86 (PV.rI p1))) then
                                                        bif (true && decide ((0 : Int) ≤ n2) && decide (n2 < ((PV.rN (PV.fld (hvarOf h8 (PV.rI p1)) 2)) : Int))) then
                                                          bif (true && true && (hokR h8 137 (PV.rI (PV.fld (hvarOf h8 (PV.rI p1)) 2)) n2)) then
                                                            bif (true && decide ((0 : Int) ≤ n3) && decide (n3 < ((PV.rN (List.getD (hrowOf h8 (PV.rI (PV.fld (hvarOf h8 (PV.rI p1)) 2))) (n2).toNat PV.nil)) : Int))) then
                                                              bif (true && (hokR h8 114 (PV.rI (List.getD (hrowOf h8 (PV.rI (PV.fld (hvarOf h8 (PV.rI p1)) 2))) (n2).toNat PV.nil)) n3)) then
                                                                let h17 : List HE := (List.set h8 (PV.rI (List.getD (hrowOf h8 (PV.rI (PV.fld (hvarOf h8 (PV.rI p1)) 2))) (n2).toNat PV.nil)) (HE.row 114 (List.set (hrowOf h8 (PV.rI (List.getD (hrowOf h8 (PV.rI (PV.fld (hvarOf h8 (PV.rI p1)) 2))) (n2).toNat PV.nil))) (n3).toNat (PV.rp (List.length h6)))))
                                                                ret0 (PV.rp (List.length h6)) h17
                                                              else none
                                                            else none
                                                          else none
                                                        else none
                                                      else none
                                                    else none
                                                  else none
                                                else none
                                              else bif (decide (n9 = (3 : Int))) then
                                                bif (true && true && (hokR h8 118 (PV.rI (PV.fld (hvarOf h8 (PV.rI p1)) 0)) n2)) then
                                                  bif (true && decide ((0 : Int) ≤ (0 : Int)) && decide ((0 : Int) < ((PV.rN (PV.fld (List.getD (hrowOf h8 (PV.rI (PV.fld (hvarOf h8 (PV.rI p1)) 0))) (n2).toNat PV.nil) 1)) : Int))) then
                                                    bif (true && true && (hokR h8 3 (PV.rI (PV.fld (List.getD (hrowOf h8 (PV.rI (PV.fld (hvarOf h8 (PV.rI p1)) 0))) (n2).toNat PV.nil) 1)) (0 : Int))) then
                                                      let n18 : Int := (PV.num (List.getD (hrowOf h8 (PV.rI (PV.fld (List.getD (hrowOf h8 (PV.rI (PV.fld (hvarOf h8 (PV.rI p1)) 0))) (n2).toNat PV.nil) 1))) ((0 : Int)).toNat PV.nil))
                                                      c96 p1 n18 n3 h8 fun p19 h20 =>
                                                      w1 h6 h8 p19 n3 h20
                                                    else none
                                                  else none
                                                else none
                                              else bif (decide (n9 = (4 : Int))) then
                                                bif (true && true && (hokR h8 118 (PV.rI (PV.fld (hvarOf h8 (PV.rI p1)) 0)) n2)) then
                                                  bif (true && decide ((0 : Int) ≤ (0 : Int)) && decide ((0 : Int) < ((PV.rN (PV.fld (List.getD (hrowOf h8 (PV.rI (PV.fld (hvarOf h8 (PV.rI p1)) 0))) (n2).toNat PV.nil) 1)) : Int))) then
                                                    bif (true && true && (hokR h8 3 (PV.rI (PV.fld (List.getD (hrowOf h8 (PV.rI (PV.fld (hvarOf h8 (PV.rI p1)) 0))) (n2).toNat PV.nil) 1)) (0 : Int))) then
                                                      let n37 : Int := (PV.num (List.getD (hrowOf h8 (PV.rI (PV.fld (List.getD (hrowOf h8 (PV.rI (PV.fld (hvarOf h8 (PV.rI p1)) 0))) (n2).toNat PV.nil) 1))) ((0 : Int)).toNat PV.nil))
                                                      c96 p1 n37 n3 h8 fun p38 h39 =>
                                                      c114 (PV.rp (List.length h6)) p38 h39 fun h40 =>
                                                      bif (true && true && (hokR h40 118 (PV.rI (PV.fld (hvarOf h8 (PV.rI p1)) 0)) n2)) then
                                                        bif (true && decide ((0 : Int) ≤ (1 : Int)) && decide ((1 : Int) < ((PV.rN (PV.fld (List.getD (hrowOf h40 (PV.rI (PV.fld (hvarOf h8 (PV.rI p1)) 0))) (n2).toNat PV.nil) 1)) : Int))) then
                                                          bif (true && true && (hokR h40 3 (PV.rI (PV.fld (List.getD (hrowOf h40 (PV.rI (PV.fld (hvarOf h8 (PV.rI p1)) 0))) (n2).toNat PV.nil) 1)) (1 : Int))) then
                                                            let n41 : Int := (PV.num (List.getD (hrowOf h40 (PV.rI (PV.fld (List.getD (hrowOf h40 (PV.rI (PV.fld (hvarOf h8 (PV.rI p1)) 0))) (n2).toNat PV.nil) 1))) ((1 : Int)).toNat PV.nil))
                                                            c96 p1 n41 n3 h40 fun p42 h43 =>
                                                            c114 (PV.rp (List.length h6)) p42 h43 fun h44 =>
                                                            bif (PV.isRp p1) then
                                                              bif (true && true && (hokV h44 86 (PV.rI p1))) then
                                                                bif (true && decide ((0 : Int) ≤ n2) && decide (n2 < ((PV.rN (PV.fld (hvarOf h44 (PV.rI p1)) 2)) : Int))) then
                                                                  bif (true && true && (hokR h44 137 (PV.rI (PV.fld (hvarOf h44 (PV.rI p1)) 2)) n2)) then
                                                                    bif (true && decide ((0 : Int) ≤ n3) && decide (n3 < ((PV.rN (List.getD (hrowOf h44 (PV.rI (PV.fld (hvarOf h44 (PV.rI p1)) 2))) (n2).toNat PV.nil)) : Int))) then
                                                                      bif (true && (hokR h44 114 (PV.rI (List.getD (hrowOf h44 (PV.rI (PV.fld (hvarOf h44 (PV.rI p1)) 2))) (n2).toNat PV.nil)) n3)) then
                                                                        let h45 : List HE := (List.set h44 (PV.rI (List.getD (hrowOf h44 (PV.rI (PV.fld (hvarOf h44 (PV.rI p1)) 2))) (n2).toNat PV.nil)) (HE.row 114 (List.set (hrowOf h44 (PV.rI (List.getD (hrowOf h44 (PV.rI (PV.fld (hvarOf h44 (PV.rI p1)) 2))) (n2).toNat PV.nil))) (n3).toNat (PV.rp (List.length h6)))))
                                                                        ret0 (PV.rp (List.length h6)) h45
                                                                      else none
                                                                    else none
                                                                  else none
                                                                else none
                                                              else none
                                                            else none
                                                          else none
                                                        else none
                                                      else none
                                                    else none
                                                  else none
                                                else none
                                              else bif (decide (n9 = (5 : Int))) then
                                                c113 (PV.rp (List.length h6)) n3 h8 fun h46 =>
                                                w2 h6 h8 n3 h46
                                              else bif (decide (n9 = (6 : Int))) then
                                                bif (true && true && (hokR h8 118 (PV.rI (PV.fld (hvarOf h8 (PV.rI p1)) 0)) n2)) then
                                                  bif (true && decide ((0 : Int) ≤ (0 : Int)) && decide ((0 : Int) < ((PV.rN (PV.fld (List.getD (hrowOf h8 (PV.rI (PV.fld (hvarOf h8 (PV.rI p1)) 0))) (n2).toNat PV.nil) 1)) : Int))) then
                                                    bif (true && true && (hokR h8 3 (PV.rI (PV.fld (List.getD (hrowOf h8 (PV.rI (PV.fld (hvarOf h8 (PV.rI p1)) 0))) (n2).toNat PV.nil) 1)) (0 : Int))) then
                                                      let n63 : Int := (PV.num (List.getD (hrowOf h8 (PV.rI (PV.fld (List.getD (hrowOf h8 (PV.rI (PV.fld (hvarOf h8 (PV.rI p1)) 0))) (n2).toNat PV.nil) 1))) ((0 : Int)).toNat PV.nil))
                                                      c96 p1 n63 n3 h8 fun p64 h65 =>
                                                      c114 (PV.rp (List.length h6)) p64 h65 fun h66 =>
                                                      bif (PV.isRp p1) then
                                                        bif (true && true && (hokV h66 86 (PV.rI p1))) then
                                                          bif (true && decide ((0 : Int) ≤ n2) && decide (n2 < ((PV.rN (PV.fld (hvarOf h66 (PV.rI p1)) 2)) : Int))) then
                                                            bif (true && true && (hokR h66 137 (PV.rI (PV.fld (hvarOf h66 (PV.rI p1)) 2)) n2)) then
                                                              bif (true && decide ((0 : Int) ≤ n3) && decide (n3 < ((PV.rN (List.getD (hrowOf h66 (PV.rI (PV.fld (hvarOf h66 (PV.rI p1)) 2))) (n2).toNat PV.nil)) : Int))) then
                                                                bif (true && (hokR h66 114 (PV.rI (List.getD (hrowOf h66 (PV.rI (PV.fld (hvarOf h66 (PV.rI p1)) 2))) (n2).toNat PV.nil)) n3)) then
                                                                  let h67 : List HE := (List.set h66 (PV.rI (List.getD (hrowOf h66 (PV.rI (PV.fld (hvarOf h66 (PV.rI p1)) 2))) (n2).toNat PV.nil)) (HE.row 114 (List.set (hrowOf h66 (PV.rI (List.getD (hrowOf h66 (PV.rI (PV.fld (hvarOf h66 (PV.rI p1)) 2))) (n2).toNat PV.nil))) (n3).toNat (PV.rp (List.length h6)))))
                                                                  ret0 (PV.rp (List.length h6)) h67
                                                                else none
                                                              else none
                                                            else none
                                                          else none
                                                        else none
                                                      else none
                                                    else none
                                                  else none
                                                else none
                                              else bif (decide (n9 = (7 : Int))) then
                                                bif (true && true && (hokR h8 118 (PV.rI (PV.fld (hvarOf h8 (PV.rI p1)) 0)) n2)) then
                                                  bif (true && decide ((0 : Int) ≤ (0 : Int)) && decide ((0 : Int) < ((PV.rN (PV.fld (List.getD (hrowOf h8 (PV.rI (PV.fld (hvarOf h8 (PV.rI p1)) 0))) (n2).toNat PV.nil) 1)) : Int))) then
                                                    bif (true && true && (hokR h8 3 (PV.rI (PV.fld (List.getD (hrowOf h8 (PV.rI (PV.fld (hvarOf h8 (PV.rI p1)) 0))) (n2).toNat PV.nil) 1)) (0 : Int))) then
                                                      let n68 : Int := (PV.num (List.getD (hrowOf h8 (PV.rI (PV.fld (List.getD (hrowOf h8 (PV.rI (PV.fld (hvarOf h8 (PV.rI p1)) 0))) (n2).toNat PV.nil) 1))) ((0 : Int)).toNat PV.nil))
                                                      c96 p1 n68 n3 h8 fun p69 h70 =>
                                                      c114 (PV.rp (List.length h6)) p69 h70 fun h71 =>
                                                      bif (PV.isRp p1) then
                                                        bif (true && true && (hokV h71 86 (PV.rI p1))) then
                                                          bif (true && decide ((0 : Int) ≤ n2) && decide (n2 < ((PV.rN (PV.fld (hvarOf h71 (PV.rI p1)) 2)) : Int))) then
                                                            bif (true && true && (hokR h71 137 (PV.rI (PV.fld (hvarOf h71 (PV.rI p1)) 2)) n2)) then
                                                              bif (true && decide ((0 : Int) ≤ n3) && decide (n3 < ((PV.rN (List.getD (hrowOf h71 (PV.rI (PV.fld (hvarOf h71 (PV.rI p1)) 2))) (n2).toNat PV.nil)) : Int))) then
                                                                bif (true && (hokR h71 114 (PV.rI (List.getD (hrowOf h71 (PV.rI (PV.fld (hvarOf h71 (PV.rI p1)) 2))) (n2).toNat PV.nil)) n3)) then
                                                                  let h72 : List HE := (List.set h71 (PV.rI (List.getD (hrowOf h71 (PV.rI (PV.fld (hvarOf h71 (PV.rI p1)) 2))) (n2).toNat PV.nil)) (HE.row 114 (List.set (hrowOf h71 (PV.rI (List.getD (hrowOf h71 (PV.rI (PV.fld (hvarOf h71 (PV.rI p1)) 2))) (n2).toNat PV.nil))) (n3).toNat (PV.rp (List.length h6)))))
                                                                  ret0 (PV.rp (List.length h6)) h72
                                                                else none
                                                              else none
                                                            else none
                                                          else none
                                                        else none
                                                      else none
                                                    else none
                                                  else none
                                                else none
                                              else bif (PV.isRp p1) then
                                                bif (true && true && (hokV h8 86 (PV.rI p1))) then
                                                  bif (true && decide ((0 : Int) ≤ n2) && decide (n2 < ((PV.rN (PV.fld (hvarOf h8 (PV.rI p1)) 2)) : Int))) then
                                                    bif (true && true && (hokR h8 137 (PV.rI (PV.fld (hvarOf h8 (PV.rI p1)) 2)) n2)) then
                                                      bif (true && decide ((0 : Int) ≤ n3) && decide (n3 < ((PV.rN (List.getD (hrowOf h8 (PV.rI (PV.fld (hvarOf h8 (PV.rI p1)) 2))) (n2).toNat PV.nil)) : Int))) then
                                                        bif (true && (hokR h8 114 (PV.rI (List.getD (hrowOf h8 (PV.rI (PV.fld (hvarOf h8 (PV.rI p1)) 2))) (n2).toNat PV.nil)) n3)) then
                                                          let h73 : List HE := (List.set h8 (PV.rI (List.getD (hrowOf h8 (PV.rI (PV.fld (hvarOf h8 (PV.rI p1)) 2))) (n2).toNat PV.nil)) (HE.row 114 (List.set (hrowOf h8 (PV.rI (List.getD (hrowOf h8 (PV.rI (PV.fld (hvarOf h8 (PV.rI p1)) 2))) (n2).toNat PV.nil))) (n3).toNat (PV.rp (List.length h6)))))
                                                          ret0 (PV.rp (List.length h6)) h73
                                                        else none
                                                      else none
                                                    else none
                                                  else none
                                                else none
                                              else none
                                            else none
                                          else none
                                        else none
                                      else none
                                    else none
                                  else none
                                else none
                              else none
                            else none
                          else none
                        else none
                      else none
                    else none
                  else none
                else none
              else none
            else none
          else bif (PV.isRp p1) then
            bif (true && true && (hokV h4 86 (PV.rI p1))) then
              bif (true && decide ((0 : Int) ≤ n2) && decide (n2 < ((PV.rN (PV.fld (hvarOf h4 (PV.rI p1)) 2)) : Int))) then
                bif (true && true && (hokR h4 137 (PV.rI (PV.fld (hvarOf h4 (PV.rI p1)) 2)) n2)) then
                  bif (true && decide ((0 : Int) ≤ n3) && decide (n3 < ((PV.rN (List.getD (hrowOf h4 (PV.rI (PV.fld (hvarOf h4 (PV.rI p1)) 2))) (n2).toNat PV.nil)) : Int))) then
                    bif (true && true && (hokR h4 114 (PV.rI (List.getD (hrowOf h4 (PV.rI (PV.fld (hvarOf h4 (PV.rI p1)) 2))) (n2).toNat PV.nil)) n3)) then
                      let p74 : PV := (List.getD (hrowOf h4 (PV.rI (List.getD (hrowOf h4 (PV.rI (PV.fld (hvarOf h4 (PV.rI p1)) 2))) (n2).toNat PV.nil))) (n3).toNat PV.nil)
                      bif (!(PV.isNil p74)) then
                        ret0 p74 h4
                      else let h75 : List HE := (h4 ++ [HE.var 139 (PV.agg [(PV.int 0), (PV.int 0), (PV.int 0), (PV.int 0), (PV.int 0)])])
                      bif (PV.isRp p1) then
                        bif (true && true && (hokV h75 86 (PV.rI p1))) then
                          bif (true && decide ((0 : Int) ≤ n2) && decide (n2 < ((PV.rN (PV.fld (hvarOf h75 (PV.rI p1)) 0)) : Int))) then
                            bif (true && true && (hokR h75 118 (PV.rI (PV.fld (hvarOf h75 (PV.rI p1)) 0)) n2)) then
                              let n76 : Int := (PV.num (PV.fld (PV.fld (List.getD (hrowOf h75 (PV.rI (PV.fld (hvarOf h75 (PV.rI p1)) 0))) (n2).toNat PV.nil) 0) 0))
                              bif (decide (n76 = (1 : Int))) then
                                c113 (PV.rp (List.length h4)) n3 h75 fun h77 =>
                                bif (PV.isRp p1) then
                                  bif (true && true && (hokV h77 86 (PV.rI p1))) then
                                    bif (true && decide ((0 : Int) ≤ n2) && decide (n2 < ((PV.rN (PV.fld (hvarOf h77 (PV.rI p1)) 2)) : Int))) then
                                      bif (true && true && (hokR h77 137 (PV.rI (PV.fld (hvarOf h77 (PV.rI p1)) 2)) n2)) then
                                        bif (true && decide ((0 : Int) ≤ n3) && decide (n3 < ((PV.rN (List.getD (hrowOf h77 (PV.rI (PV.fld (hvarOf h77 (PV.rI p1)) 2))) (n2).toNat PV.nil)) : Int))) then
                                          bif (true && (hokR h77 114 (PV.rI (List.getD (hrowOf h77 (PV.rI (PV.fld (hvarOf h77 (PV.rI p1)) 2))) (n2).toNat PV.nil)) n3)) then
                                            let h78 : List HE := (List.set h77 (PV.rI (List.getD (hrowOf h77 (PV.rI (PV.fld (hvarOf h77 (PV.rI p1)) 2))) (n2).toNat PV.nil)) (HE.row 114 (List.set (hrowOf h77 (PV.rI (List.getD (hrowOf h77 (PV.rI (PV.fld (hvarOf h77 (PV.rI p1)) 2))) (n2).toNat PV.nil))) (n3).toNat (PV.rp (List.length h4)))))
                                            ret0 (PV.rp (List.length h4)) h78
                                          else none
                                        else none
                                      else none
                                    else none
                                  else none
                                else none
                              else bif (decide (n76 = (2 : Int))) then
                                bif (PV.isRp p1) then
                                  bif (true && true && (hokV h75 86 (PV.rI p1))) then
                                    bif ((decide (n3 < (List.length (PV.els (PV.fld (hvarOf h75 (PV.rI p1)) 1)) : Int))) == true) then
                                      bif (true && true && (hokR h75 118 (PV.rI (PV.fld (hvarOf h75 (PV.rI p1)) 0)) n2)) then
                                        let p79 : PV := (PV.fld (PV.fld (List.getD (hrowOf h75 (PV.rI (PV.fld (hvarOf h75 (PV.rI p1)) 0))) (n2).toNat PV.nil) 0) 1)
                                        bif (PV.isRp p1) then
                                          bif (true && true && (hokV h75 86 (PV.rI p1))) then
                                            bif (true && decide ((0 : Int) ≤ n3) && decide (n3 < (List.length (PV.els (PV.fld (hvarOf h75 (PV.rI p1)) 1)) : Int))) then
                                              c31 p79 (PV.num (List.getD (PV.els (PV.fld (hvarOf h75 (PV.rI p1)) 1)) (n3).toNat PV.nil)) fun b80 =>
                                              bif b80 then
                                                c113 (PV.rp (List.length h4)) (IntKind.wrap .i64 (n3 + (1 : Int))) h75 fun h81 =>
                                                bif (PV.isRp p1) then
                                                  bif (true && true && (hokV h81 86 (PV.rI p1))) then
                                                    bif (true && decide ((0 : Int) ≤ n2) && decide (n2 < ((PV.rN (PV.fld (hvarOf h81 (PV.rI p1)) 2)) : Int))) then
                                                      bif (true && true && (hokR h81 137 (PV.rI (PV.fld (hvarOf h81 (PV.rI p1)) 2)) n2)) then
                                                        bif (true && decide ((0 : Int) ≤ n3) && decide (n3 < ((PV.rN (List.getD (hrowOf h81 (PV.rI (PV.fld (hvarOf h81 (PV.rI p1)) 2))) (n2).toNat PV.nil)) : Int))) then
                                                          bif (true && (hokR h81 114 (PV.rI (List.getD (hrowOf h81 (PV.rI (PV.fld (hvarOf h81 (PV.rI p1)) 2))) (n2).toNat PV.nil)) n3)) then
                                                            let h82 : List HE := (List.set h81 (PV.rI (List.getD (hrowOf h81 (PV.rI (PV.fld (hvarOf h81 (PV.rI p1)) 2))) (n2).toNat PV.nil)) (HE.row 114 (List.set (hrowOf h81 (PV.rI (List.getD (hrowOf h81 (PV.rI (PV.fld (hvarOf h81 (PV.rI p1)) 2))) (n2).toNat PV.nil))) (n3).toNat (PV.rp (List.length h4)))))
                                                            ret0 (PV.rp (List.length h4)) h82
                                                          else none
                                                        else none
                                                      else none
                                                    else none
                                                  else none
                                                else none
                                              else bif (PV.isRp p1) then
                                                bif (true && true && (hokV h75 86 (PV.rI p1))) then
                                                  bif (true && decide ((0 : Int) ≤ n2) && decide (n2 < ((PV.rN (PV.fld (hvarOf h75 (PV.rI p1)) 2)) : Int))) then
                                                    bif (true && true && (hokR h75 137 (PV.rI (PV.fld (hvarOf h75 (PV.rI p1)) 2)) n2)) then
                                                      bif (true && decide ((0 : Int) ≤ n3) && decide (n3 < ((PV.rN (List.getD (hrowOf h75 (PV.rI (PV.fld (hvarOf h75 (PV.rI p1)) 2))) (n2).toNat PV.nil)) : Int))) then
                                                        bif (true && (hokR h75 114 (PV.rI (List.getD (hrowOf h75 (PV.rI (PV.fld (hvarOf h75 (PV.rI p1)) 2))) (n2).toNat PV.nil)) n3)) then
                                                          let h83 : List HE := (List.set h75 (PV.rI (List.getD (hrowOf h75 (PV.rI (PV.fld (hvarOf h75 (PV.rI p1)) 2))) (n2).toNat PV.nil)) (HE.row 114 (List.set (hrowOf h75 (PV.rI (List.getD (hrowOf h75 (PV.rI (PV.fld (hvarOf h75 (PV.rI p1)) 2))) (n2).toNat PV.nil))) (n3).toNat (PV.rp (List.length h4)))))
                                                          ret0 (PV.rp (List.length h4)) h83
                                                        else none
                                                      else none
                                                    else none
                                                  else none
                                                else none
                                              else none
                                            else none
                                          else none
                                        else none
                                      else none
                                    else bif (PV.isRp p1) then
                                      bif (true && true && (hokV h75 86 (PV.rI p1))) then
                                        bif (true && decide ((0 : Int) ≤ n2) && decide (n2 < ((PV.rN (PV.fld (hvarOf h75 (PV.rI p1)) 2)) : Int))) then
                                          bif (true && true && (hokR h75 137 (PV.rI (PV.fld (hvarOf h75 (PV.rI p1)) 2)) n2)) then
                                            bif (true && decide ((0 : Int) ≤ n3) && decide (n3 < ((PV.rN (List.getD (hrowOf h75 (PV.rI (PV.fld (hvarOf h75 (PV.rI p1)) 2))) (n2).toNat PV.nil)) : Int))) then
                                              bif (true && (hokR h75 114 (PV.rI (List.getD (hrowOf h75 (PV.rI (PV.fld (hvarOf h75 (PV.rI p1)) 2))) (n2).toNat PV.nil)) n3)) then
                                                let h84 : List HE := (List.set h75 (PV.rI (List.getD (hrowOf h75 (PV.rI (PV.fld (hvarOf h75 (PV.rI p1)) 2))) (n2).toNat PV.nil)) (HE.row 114 (List.set (hrowOf h75 (PV.rI (List.getD (hrowOf h75 (PV.rI (PV.fld (hvarOf h75 (PV.rI p1)) 2))) (n2).toNat PV.nil))) (n3).toNat (PV.rp (List.length h4)))))
                                                ret0 (PV.rp (List.length h4)) h84
                                              else none
                                            else none
                                          else none
                                        else none
                                      else none
                                    else none
                                  else none
                                else none
                              else bif (decide (n76 = (3 : Int))) then
                                bif (true && true && (hokR h75 118 (PV.rI (PV.fld (hvarOf h75 (PV.rI p1)) 0)) n2)) then
                                  bif (true && decide ((0 : Int) ≤ (0 : Int)) && decide ((0 : Int) < ((PV.rN (PV.fld (List.getD (hrowOf h75 (PV.rI (PV.fld (hvarOf h75 (PV.rI p1)) 0))) (n2).toNat PV.nil) 1)) : Int))) then
                                    bif (true && true && (hokR h75 3 (PV.rI (PV.fld (List.getD (hrowOf h75 (PV.rI (PV.fld (hvarOf h75 (PV.rI p1)) 0))) (n2).toNat PV.nil) 1)) (0 : Int))) then
                                      let n85 : Int := (PV.num (List.getD (hrowOf h75 (PV.rI (PV.fld (List.getD (hrowOf h75 (PV.rI (PV.fld (hvarOf h75 (PV.rI p1)) 0))) (n2).toNat PV.nil) 1))) ((0 : Int)).toNat PV.nil))
                                      c96 p1 n85 n3 h75 fun p86 h87 =>
                                      w1 h4 h75 p86 n3 h87
                                    else none
                                  else none
                                else none
                              else bif (decide (n76 = (4 : Int))) then
                                bif (true && true && (hokR h75 118 (PV.rI (PV.fld (hvarOf h75 (PV.rI p1)) 0)) n2)) then
                                  bif (true && decide ((0 : Int) ≤ (0 : Int)) && decide ((0 : Int) < ((PV.rN (PV.fld (List.getD (hrowOf h75 (PV.rI (PV.fld (hvarOf h75 (PV.rI p1)) 0))) (n2).toNat PV.nil) 1)) : Int))) then
                                    bif (true && true && (hokR h75 3 (PV.rI (PV.fld (List.getD (hrowOf h75 (PV.rI (PV.fld (hvarOf h75 (PV.rI p1)) 0))) (n2).toNat PV.nil) 1)) (0 : Int))) then
                                      let n104 : Int := (PV.num (List.getD (hrowOf h75 (PV.rI (PV.fld (List.getD (hrowOf h75 (PV.rI (PV.fld (hvarOf h75 (PV.rI p1)) 0))) (n2).toNat PV.nil) 1))) ((0 : Int)).toNat PV.nil))
                                      c96 p1 n104 n3 h75 fun p105 h106 =>
                                      c114 (PV.rp (List.length h4)) p105 h106 fun h107 =>
                                      bif (true && true && (hokR h107 118 (PV.rI (PV.fld (hvarOf h75 (PV.rI p1)) 0)) n2)) then
                                        bif (true && decide ((0 : Int) ≤ (1 : Int)) && decide ((1 : Int) < ((PV.rN (PV.fld (List.getD (hrowOf h107 (PV.rI (PV.fld (hvarOf h75 (PV.rI p1)) 0))) (n2).toNat PV.nil) 1)) : Int))) then
                                          bif (true && true && (hokR h107 3 (PV.rI (PV.fld (List.getD (hrowOf h107 (PV.rI (PV.fld (hvarOf h75 (PV.rI p1)) 0))) (n2).toNat PV.nil) 1)) (1 : Int))) then
                                            let n108 : Int := (PV.num (List.getD (hrowOf h107 (PV.rI (PV.fld (List.getD (hrowOf h107 (PV.rI (PV.fld (hvarOf h75 (PV.rI p1)) 0))) (n2).toNat PV.nil) 1))) ((1 : Int)).toNat PV.nil))
                                            c96 p1 n108 n3 h107 fun p109 h110 =>
                                            c114 (PV.rp (List.length h4)) p109 h110 fun h111 =>
                                            bif (PV.isRp p1) then
                                              bif (true && true && (hokV h111 86 (PV.rI p1))) then
                                                bif (true && decide ((0 : Int) ≤ n2) && decide (n2 < ((PV.rN (PV.fld (hvarOf h111 (PV.rI p1)) 2)) : Int))) then
                                                  bif (true && true && (hokR h111 137 (PV.rI (PV.fld (hvarOf h111 (PV.rI p1)) 2)) n2)) then
                                                    bif (true && decide ((0 : Int) ≤ n3) && decide (n3 < ((PV.rN (List.getD (hrowOf h111 (PV.rI (PV.fld (hvarOf h111 (PV.rI p1)) 2))) (n2).toNat PV.nil)) : Int))) then
                                                      bif (true && (hokR h111 114 (PV.rI (List.getD (hrowOf h111 (PV.rI (PV.fld (hvarOf h111 (PV.rI p1)) 2))) (n2).toNat PV.nil)) n3)) then
                                                        let h112 : List HE := (List.set h111 (PV.rI (List.getD (hrowOf h111 (PV.rI (PV.fld (hvarOf h111 (PV.rI p1)) 2))) (n2).toNat PV.nil)) (HE.row 114 (List.set (hrowOf h111 (PV.rI (List.getD (hrowOf h111 (PV.rI (PV.fld (hvarOf h111 (PV.rI p1)) 2))) (n2).toNat PV.nil))) (n3).toNat (PV.rp (List.length h4)))))
                                                        ret0 (PV.rp (List.length h4)) h112
                                                      else none
                                                    else none
                                                  else none
                                                else none
                                              else none
                                            else none
                                          else none
                                        else none
                                      else none
                                    else none
                                  else none
                                else none
                              else bif (decide (n76 = (5 : Int))) then
                                c113 (PV.rp (List.length h4)) n3 h75 fun h113 =>
                                w2 h4 h75 n3 h113
                              else bif (decide (n76 = (6 : Int))) then
                                bif (true && true && (hokR h75 118 (PV.rI (PV.fld (hvarOf h75 (PV.rI p1)) 0)) n2)) then
                                  bif (true && decide ((0 : Int) ≤ (0 : Int)) && decide ((0 : Int) < ((PV.rN (PV.fld (List.getD (hrowOf h75 (PV.rI (PV.fld (hvarOf h75 (PV.rI p1)) 0))) (n2).toNat PV.nil) 1)) : Int))) then
                                    bif (true && true && (hokR h75 3 (PV.rI (PV.fld (List.getD (hrowOf h75 (PV.rI (PV.fld (hvarOf h75 (PV.rI p1)) 0))) (n2).toNat PV.nil) 1)) (0 : Int))) then
                                      let n130 : Int := (PV.num (List.getD (hrowOf h75 (PV.rI (PV.fld (List.getD (hrowOf h75 (PV.rI (PV.fld (hvarOf h75 (PV.rI p1)) 0))) (n2).toNat PV.nil) 1))) ((0 : Int)).toNat PV.nil))
                                      c96 p1 n130 n3 h75 fun p131 h132 =>
                                      c114 (PV.rp (List.length h4)) p131 h132 fun h133 =>
                                      bif (PV.isRp p1) then
                                        bif (true && true && (hokV h133 86 (PV.rI p1))) then
                                          bif (true && decide ((0 : Int) ≤ n2) && decide (n2 < ((PV.rN (PV.fld (hvarOf h133 (PV.rI p1)) 2)) : Int))) then
                                            bif (true && true && (hokR h133 137 (PV.rI (PV.fld (hvarOf h133 (PV.rI p1)) 2)) n2)) then
                                              bif (true && decide ((0 : Int) ≤ n3) && decide (n3 < ((PV.rN (List.getD (hrowOf h133 (PV.rI (PV.fld (hvarOf h133 (PV.rI p1)) 2))) (n2).toNat PV.nil)) : Int))) then
                                                bif (true && (hokR h133 114 (PV.rI (List.getD (hrowOf h133 (PV.rI (PV.fld (hvarOf h133 (PV.rI p1)) 2))) (n2).toNat PV.nil)) n3)) then
                                                  let h134 : List HE := (List.set h133 (PV.rI (List.getD (hrowOf h133 (PV.rI (PV.fld (hvarOf h133 (PV.rI p1)) 2))) (n2).toNat PV.nil)) (HE.row 114 (List.set (hrowOf h133 (PV.rI (List.getD (hrowOf h133 (PV.rI (PV.fld (hvarOf h133 (PV.rI p1)) 2))) (n2).toNat PV.nil))) (n3).toNat (PV.rp (List.length h4)))))
                                                  ret0 (PV.rp (List.length h4)) h134
                                                else none
                                              else none
                                            else none
                                          else none
                                        else none
                                      else none
                                    else none
                                  else none
                                else none
                              else bif (decide (n76 = (7 : Int))) then
                                bif (true && true && (hokR h75 118 (PV.rI (PV.fld (hvarOf h75 (PV.rI p1)) 0)) n2)) then
                                  bif (true && decide ((0 : Int) ≤ (0 : Int)) && decide ((0 : Int) < ((PV.rN (PV.fld (List.getD (hrowOf h75 (PV.rI (PV.fld (hvarOf h75 (PV.rI p1)) 0))) (n2).toNat PV.nil) 1)) : Int))) then
                                    bif (true && true && (hokR h75 3 (PV.rI (PV.fld (List.getD (hrowOf h75 (PV.rI (PV.fld (hvarOf h75 (PV.rI p1)) 0))) (n2).toNat PV.nil) 1)) (0 : Int))) then
                                      let n135 : Int := (PV.num (List.getD (hrowOf h75 (PV.rI (PV.fld (List.getD (hrowOf h75 (PV.rI (PV.fld (hvarOf h75 (PV.rI p1)) 0))) (n2).toNat PV.nil) 1))) ((0 : Int)).toNat PV.nil))
                                      c96 p1 n135 n3 h75 fun p136 h137 =>
                                      c114 (PV.rp (List.length h4)) p136 h137 fun h138 =>
                                      bif (PV.isRp p1) then
                                        bif (true && true && (hokV h138 86 (PV.rI p1))) then
                                          bif (true && decide ((0 : Int) ≤ n2) && decide (n2 < ((PV.rN (PV.fld (hvarOf h138 (PV.rI p1)) 2)) : Int))) then
                                            bif (true && true && (hokR h138 137 (PV.rI (PV.fld (hvarOf h138 (PV.rI p1)) 2)) n2)) then
                                              bif (true && decide ((0 : Int) ≤ n3) && decide (n3 < ((PV.rN (List.getD (hrowOf h138 (PV.rI (PV.fld (hvarOf h138 (PV.rI p1)) 2))) (n2).toNat PV.nil)) : Int))) then
                                                bif (true && (hokR h138 114 (PV.rI (List.getD (hrowOf h138 (PV.rI (PV.fld (hvarOf h138 (PV.rI p1)) 2))) (n2).toNat PV.nil)) n3)) then
                                                  let h139 : List HE := (List.set h138 (PV.rI (List.getD (hrowOf h138 (PV.rI (PV.fld (hvarOf h138 (PV.rI p1)) 2))) (n2).toNat PV.nil)) (HE.row 114 (List.set (hrowOf h138 (PV.rI (List.getD (hrowOf h138 (PV.rI (PV.fld (hvarOf h138 (PV.rI p1)) 2))) (n2).toNat PV.nil))) (n3).toNat (PV.rp (List.length h4)))))
                                                  ret0 (PV.rp (List.length h4)) h139
                                                else none
                                              else none
                                            else none
                                          else none
                                        else none
                                      else none
                                    else none
                                  else none
                                else none
                              else bif (PV.isRp p1) then
                                bif (true && true && (hokV h75 86 (PV.rI p1))) then
                                  bif (true && decide ((0 : Int) ≤ n2) && decide (n2 < ((PV.rN (PV.fld (hvarOf h75 (PV.rI p1)) 2)) : Int))) then
                                    bif (true && true && (hokR h75 137 (PV.rI (PV.fld (hvarOf h75 (PV.rI p1)) 2)) n2)) then
                                      bif (true && decide ((0 : Int) ≤ n3) && decide (n3 < ((PV.rN (List.getD (hrowOf h75 (PV.rI (PV.fld (hvarOf h75 (PV.rI p1)) 2))) (n2).toNat PV.nil)) : Int))) then
                                        bif (true && (hokR h75 114 (PV.rI (List.getD (hrowOf h75 (PV.rI (PV.fld (hvarOf h75 (PV.rI p1)) 2))) (n2).toNat PV.nil)) n3)) then
                                          let h140 : List HE := (List.set h75 (PV.rI (List.getD (hrowOf h75 (PV.rI (PV.fld (hvarOf h75 (PV.rI p1)) 2))) (n2).toNat PV.nil)) (HE.row 114 (List.set (hrowOf h75 (PV.rI (List.getD (hrowOf h75 (PV.rI (PV.fld (hvarOf h75 (PV.rI p1)) 2))) (n2).toNat PV.nil))) (n3).toNat (PV.rp (List.length h4)))))
                                          ret0 (PV.rp (List.length h4)) h140
                                        else none
                                      else none
                                    else none
                                  else none
                                else none
                              else none
                            else none
                          else none
                        else none
                      else none
                    else none
                  else none
                else none
              else none
            else none
          else none
        else none
      else none
    else none
  else none

theorem f96_e_mem (k : Nat) (c31 : PV → Int → (Bool → R) → R) (c96 : PV → Int → Int → (List HE) → (PV → (List HE) → R) → R) (c97 : PV → Int → (List HE) → (Bool → (List HE) → R) → R) (c113 : PV → Int → (List HE) → ((List HE) → R) → R) (c114 : PV → PV → (List HE) → ((List HE) → R) → R) (retF : PV × (List HE) → R) (p1 : PV) (n2 : Int) (n3 : Int) (h4 : List HE) : exec (f96_E k c31 c96 c97 c113 c114) f96_code (endK (f96_E k c31 c96 c97 c113 c114) Try.f96 [1000000000000] f96_un retF) ⟨[.hval 76 p1, .int .i64 n2, .int .i64 n3, .undef, .undef, .undef, .undef, .undef, .undef, .undef, .undef, .undef, .undef, .undef, .undef, .undef, .undef, .undef, .undef, .undef, .undef, .undef, .undef, .undef, .undef, .undef, .undef, .undef, .undef, .undef, .undef, .undef, .undef, .undef, .undef, .undef, .undef, .undef, .undef, .undef, .undef, .undef, .undef, .undef, .undef, .undef, .undef, .undef, .undef, .undef, .undef, .undef, .undef, .undef, .undef, .undef, .undef, .undef, .undef, .undef, .undef, .undef, .undef, .undef, .undef, .undef, .undef, .undef, .undef, .undef, .undef, .undef, .undef, .undef, .undef, .undef, .undef, .undef, .undef, .undef, .undef, .undef, .undef, .undef, .undef, .undef, .undef, .undef, .undef, .undef, .undef, .undef, .undef, .undef, .undef, .undef, .undef, .undef, .undef, .undef, .undef, .undef, .undef, .undef, .undef, .undef, .undef, .undef, .undef, .undef, .undef, .undef, .undef, .undef, .undef, .undef, .undef, .undef, .undef, .undef, .undef, .undef, .undef, .undef, .undef, .undef, .undef, .undef, .undef, .undef, .undef, .undef, .undef, .undef, .undef, .undef, .undef, .undef, .undef, .undef, .undef, .undef, .undef, .undef, .undef, .undef, .undef, .undef, .undef, .undef, .undef, .undef, .undef, .undef, .undef, .undef, .undef, .undef, .undef, .undef, .undef, .undef, .undef, .undef, .undef, .undef, .undef, .undef, .undef, .undef, .undef, .undef, .undef, .undef, .undef, .undef, .undef, .undef, .undef, .undef, .undef, .undef, .undef, .undef, .undef, .undef, .undef, .undef, .undef, .undef, .undef, .undef, .undef, .undef, .undef, .undef, .undef, .undef, .undef, .undef, .undef, .undef, .undef, .undef, .undef, .undef], [(1000000000000, .hp h4)]⟩ = f96_e c31 c96 c97 c113 c114 (fun y0 y1 => retF (y0, y1)) (fun h6 h8 p19 n28 h29 => f96_w1A k c31 c96 c97 c113 c114 retF p1 n2 n3 h6 h8 p19 n28 h29) (fun h6 h8 n54 h55 => f96_w2A k c31 c96 c97 c113 c114 retF p1 n2 n3 h6 h8 n54 h55) p1 n2 n3 h4 := by kernel_rfl

noncomputable def f96_N (k : Nat) (c31 : PV → Int → (Bool → R) → R) (c96 : PV → Int → Int → (List HE) → (PV → (List HE) → R) → R) (c97 : PV → Int → (List HE) → (Bool → (List HE) → R) → R) (c113 : PV → Int → (List HE) → ((List HE) → R) → R) (c114 : PV → PV → (List HE) → ((List HE) → R) → R) (ret0 : PV → (List HE) → R) (p1 : PV) (n2 : Int) (n3 : Int) (h4 : List HE) : R :=
  f96_e c31 c96 c97 c113 c114 ret0 (fun h6 h8 p19 n28 h29 => f96_w1N k c31 c96 c97 c113 c114 ret0 p1 n2 n3 h6 h8 p19 n28 h29) (fun h6 h8 n54 h55 => f96_w2N k c31 c96 c97 c113 c114 ret0 p1 n2 n3 h6 h8 n54 h55) p1 n2 n3 h4
theorem f96_eq (k : Nat) (c31 : PV → Int → (Bool → R) → R) (c96 : PV → Int → Int → (List HE) → (PV → (List HE) → R) → R) (c97 : PV → Int → (List HE) → (Bool → (List HE) → R) → R) (c113 : PV → Int → (List HE) → ((List HE) → R) → R) (c114 : PV → PV → (List HE) → ((List HE) → R) → R) (retF : PV × (List HE) → R) (p1 : PV) (n2 : Int) (n3 : Int) (h4 : List HE) : exec (f96_E k c31 c96 c97 c113 c114) f96_code (endK (f96_E k c31 c96 c97 c113 c114) Try.f96 [1000000000000] f96_un retF) ⟨[.hval 76 p1, .int .i64 n2, .int .i64 n3, .undef, .undef, .undef, .undef, .undef, .undef, .undef, .undef, .undef, .undef, .undef, .undef, .undef, .undef, .undef, .undef, .undef, .undef, .undef, .undef, .undef, .undef, .undef, .undef, .undef, .undef, .undef, .undef, .undef, .undef, .undef, .undef, .undef, .undef, .undef, .undef, .undef, .undef, .undef, .undef, .undef, .undef, .undef, .undef, .undef, .undef, .undef, .undef, .undef, .undef, .undef, .undef, .undef, .undef, .undef, .undef, .undef, .undef, .undef, .undef, .undef, .undef, .undef, .undef, .undef, .undef, .undef, .undef, .undef, .undef, .undef, .undef, .undef, .undef, .undef, .undef, .undef, .undef, .undef, .undef, .undef, .undef, .undef, .undef, .undef, .undef, .undef, .undef, .undef, .undef, .undef, .undef, .undef, .undef, .undef, .undef, .undef, .undef, .undef, .undef, .undef, .undef, .undef, .undef, .undef, .undef, .undef, .undef, .undef, .undef, .undef, .undef, .undef, .undef, .undef, .undef, .undef, .undef, .undef, .undef, .undef, .undef, .undef, .undef, .undef, .undef, .undef, .undef, .undef, .undef, .undef, .undef, .undef, .undef, .undef, .undef, .undef, .undef, .undef, .undef, .undef, .undef, .undef, .undef, .undef, .undef, .undef, .undef, .undef, .undef, .undef, .undef, .undef, .undef, .undef, .undef, .undef, .undef, .undef, .undef, .undef, .undef, .undef, .undef, .undef, .undef, .undef, .undef, .undef, .undef, .undef, .undef, .undef, .undef, .undef, .undef, .undef, .undef, .undef, .undef, .undef, .undef, .undef, .undef, .undef, .undef, .undef, .undef, .undef, .undef, .undef, .undef, .undef, .undef, .undef, .undef, .undef, .undef, .undef, .undef, .undef, .undef, .undef], [(1000000000000, .hp h4)]⟩ = f96_N k c31 c96 c97 c113 c114 (fun y0 y1 => retF (y0, y1)) p1 n2 n3 h4 :=
  (f96_e_mem k c31 c96 c97 c113 c114 retF p1 n2 n3 h4).trans (by rw [show (fun h6 h8 p19 n28 h29 => f96_w1A k c31 c96 c97 c113 c114 retF p1 n2 n3 h6 h8 p19 n28 h29) = (fun h6 h8 p19 n28 h29 => f96_w1N k c31 c96 c97 c113 c114 (fun y0 y1 => retF (y0, y1)) p1 n2 n3 h6 h8 p19 n28 h29) from funext fun h6 => funext fun h8 => funext fun p19 => funext fun n28 => funext fun h29 => f96_w1_eq k c31 c96 c97 c113 c114 retF p1 n2 n3 h6 h8 p19 n28 h29, show (fun h6 h8 n54 h55 => f96_w2A k c31 c96 c97 c113 c114 retF p1 n2 n3 h6 h8 n54 h55) = (fun h6 h8 n54 h55 => f96_w2N k c31 c96 c97 c113 c114 (fun y0 y1 => retF (y0, y1)) p1 n2 n3 h6 h8 n54 h55) from funext fun h6 => funext fun h8 => funext fun n54 => funext fun h55 => f96_w2_eq k c31 c96 c97 c113 c114 retF p1 n2 n3 h6 h8 n54 h55]; rfl)

noncomputable def G96 : Nat → PV → Int → Int → (List HE) → (PV → (List HE) → R) → R
  | 0, _, _, _, _, _ => none
  | k + 1, p1, n2, n3, h4, ret0 => f96_N k (G31 k) (G96 k) (G97 k) (G113 k) (G114 k) ret0 p1 n2 n3 h4
theorem S96 : ∀ k, Snd Try.prog 96 f96_I f96_O (fun x ret => G96 k x.1 x.2.1 x.2.2.1 x.2.2.2 (fun y0 y1 => ret (y0, y1)))
  | 0 => snd_none
  | k + 1 => snd_step (E := f96_E k (G31 k) (G96 k) (G97 k) (G113 k) (G114 k)) rfl laidOut noNums (orc_ok (S31 k).o f31_D_ok (orc_ok (S96 k).o f96_D_ok (orc_ok (S97 k).o f97_D_ok (orc_ok (S113 k).o f113_D_ok (orc_ok (S114 k).o f114_D_ok orc0_ok))))) (f := 96) (fn := Try.f96) (code := f96_code) Try.func96 (by kernel_rfl) (drawsOk_of laidOut (orc_ok (S31 k).o f31_D_ok (orc_ok (S96 k).o f96_D_ok (orc_ok (S97 k).o f97_D_ok (orc_ok (S113 k).o f113_D_ok (orc_ok (S114 k).o f114_D_ok orc0_ok))))) mixed (by kernel_rfl)) f96_un f96_un_ok [1000000000000] (fun _ => rfl)
      (fun x ret => f96_eq k (G31 k) (G96 k) (G97 k) (G113 k) (G114 k) ret x.1 x.2.1 x.2.2.1 x.2.2.2)

/- (*catchpole/lang.Table).Says -/
noncomputable def f67_I : PV × Int × Int × Int × (List HE) → List SV × Obs := fun x => ([.hval 76 x.1, .int .i64 x.2.1, .int .i64 x.2.2.1, .int .i64 x.2.2.2.1], [(1000000000000, .hp x.2.2.2.2)])
noncomputable def f67_D : List SV → Obs → Option (PV × Int × Int × Int × (List HE))
  | [.hval 76 p1, .int .i64 n2, .int .i64 n3, .int .i64 n4], [(1000000000000, .hp h5)] => some (p1, n2, n3, n4, h5)
  | _, _ => none
theorem f67_D_ok (args : List SV) (B : Obs) (x : PV × Int × Int × Int × (List HE)) (h : f67_D args B = some x) : f67_I x = (args, B) := by
  unfold f67_D at h
  split at h
  · injection h with h; subst h; rfl
  · cases h
noncomputable def f67_O : Bool × (List HE) → Out := (fun y => ([.bool y.1], [(1000000000000, .hp y.2)]))
noncomputable def f67_un : Out → Option (Bool × (List HE))
  | ([.bool y0], [(1000000000000, .hp y1)]) => some (y0, y1)
  | _ => none
theorem f67_un_ok (o : Out) (y : Bool × (List HE)) (h : f67_un o = some y) : o = f67_O y := by
  unfold f67_un at h
  split at h
  · injection h with h; subst h; rfl
  · cases h
noncomputable def f67_msk : Nat → Option (List Nat) := fun key =>  none
noncomputable def f67_C (c96 : PV → Int → Int → (List HE) → (PV → (List HE) → R) → R) (c97 : PV → Int → (List HE) → (Bool → (List HE) → R) → R) : Oracle := orc 96 f96_D f96_O (fun x ret => c96 x.1 x.2.1 x.2.2.1 x.2.2.2 (fun y0 y1 => ret (y0, y1))) <| orc 97 f97_D f97_O (fun x ret => c97 x.1 x.2.1 x.2.2 (fun y0 y1 => ret (y0, y1))) <| orc0
noncomputable def f67_E (k : Nat) (c96 : PV → Int → Int → (List HE) → (PV → (List HE) → R) → R) (c97 : PV → Int → (List HE) → (Bool → (List HE) → R) → R) : Env := { P := Try.prog, nilOwn := fun d => false, fldOwn := fun d i => false, ownPar := ownPars, ownRet := false, hpD := fun d => false, hpF := hpFs, hpNew := false, mask := f67_msk, fuel := k, C := f67_C c96 c97 }
noncomputable def f67_code : Code := Try.f67.body.getD .skip
noncomputable def f67_e (c96 : PV → Int → Int → (List HE) → (PV → (List HE) → R) → R) (c97 : PV → Int → (List HE) → (Bool → (List HE) → R) → R) (ret0 : Bool → (List HE) → R) (p1 : PV) (n2 : Int) (n3 : Int) (n4 : Int) (h5 : List HE) : R :=
  c96 p1 n2 n3 h5 fun p6 h7 =>
  c97 p6 n4 h7 fun b8 h9 =>
  ret0 b8 h9

theorem f67_e_mem (k : Nat) (c96 : PV → Int → Int → (List HE) → (PV → (List HE) → R) → R) (c97 : PV → Int → (List HE) → (Bool → (List HE) → R) → R) (retF : Bool × (List HE) → R) (p1 : PV) (n2 : Int) (n3 : Int) (n4 : Int) (h5 : List HE) : exec (f67_E k c96 c97) f67_code (endK (f67_E k c96 c97) Try.f67 [1000000000000] f67_un retF) ⟨[.hval 76 p1, .int .i64 n2, .int .i64 n3, .int .i64 n4, .undef, .undef, .undef, .undef, .undef, .undef, .undef, .undef, .undef, .undef, .undef], [(1000000000000, .hp h5)]⟩ = f67_e c96 c97 (fun y0 y1 => retF (y0, y1)) p1 n2 n3 n4 h5 := by kernel_rfl

noncomputable def f67_N (k : Nat) (c96 : PV → Int → Int → (List HE) → (PV → (List HE) → R) → R) (c97 : PV → Int → (List HE) → (Bool → (List HE) → R) → R) (ret0 : Bool → (List HE) → R) (p1 : PV) (n2 : Int) (n3 : Int) (n4 : Int) (h5 : List HE) : R :=
  f67_e c96 c97 ret0 p1 n2 n3 n4 h5
theorem f67_eq (k : Nat) (c96 : PV → Int → Int → (List HE) → (PV → (List HE) → R) → R) (c97 : PV → Int → (List HE) → (Bool → (List HE) → R) → R) (retF : Bool × (List HE) → R) (p1 : PV) (n2 : Int) (n3 : Int) (n4 : Int) (h5 : List HE) : exec (f67_E k c96 c97) f67_code (endK (f67_E k c96 c97) Try.f67 [1000000000000] f67_un retF) ⟨[.hval 76 p1, .int .i64 n2, .int .i64 n3, .int .i64 n4, .undef, .undef, .undef, .undef, .undef, .undef, .undef, .undef, .undef, .undef, .undef], [(1000000000000, .hp h5)]⟩ = f67_N k c96 c97 (fun y0 y1 => retF (y0, y1)) p1 n2 n3 n4 h5 :=
  (f67_e_mem k c96 c97 retF p1 n2 n3 n4 h5)

noncomputable def G67 : Nat → PV → Int → Int → Int → (List HE) → (Bool → (List HE) → R) → R
  | 0, _, _, _, _, _, _ => none
  | k + 1, p1, n2, n3, n4, h5, ret0 => f67_N k (G96 k) (G97 k) ret0 p1 n2 n3 n4 h5
theorem S67 : ∀ k, Snd Try.prog 67 f67_I f67_O (fun x ret => G67 k x.1 x.2.1 x.2.2.1 x.2.2.2.1 x.2.2.2.2 (fun y0 y1 => ret (y0, y1)))
  | 0 => snd_none
  | k + 1 => snd_step (E := f67_E k (G96 k) (G97 k)) rfl laidOut noNums (orc_ok (S96 k).o f96_D_ok (orc_ok (S97 k).o f97_D_ok orc0_ok)) (f := 67) (fn := Try.f67) (code := f67_code) Try.func67 (by kernel_rfl) (drawsOk_of laidOut (orc_ok (S96 k).o f96_D_ok (orc_ok (S97 k).o f97_D_ok orc0_ok)) mixed (by kernel_rfl)) f67_un f67_un_ok [1000000000000] (fun _ => rfl)
      (fun x ret => f67_eq k (G96 k) (G97 k) ret x.1 x.2.1 x.2.2.1 x.2.2.2.1 x.2.2.2.2)

/- (*catchpole/ahead.Ahead).into -/
noncomputable def f70_I : PV × Int × Int × Int × (List HE) → List SV × Obs := fun x => ([.hval 51 x.1, .int .i64 x.2.1, .int .i64 x.2.2.1, .int .i64 x.2.2.2.1], [(1000000000000, .hp x.2.2.2.2)])
noncomputable def f70_D : List SV → Obs → Option (PV × Int × Int × Int × (List HE))
  | [.hval 51 p1, .int .i64 n2, .int .i64 n3, .int .i64 n4], [(1000000000000, .hp h5)] => some (p1, n2, n3, n4, h5)
  | _, _ => none
theorem f70_D_ok (args : List SV) (B : Obs) (x : PV × Int × Int × Int × (List HE)) (h : f70_D args B = some x) : f70_I x = (args, B) := by
  unfold f70_D at h
  split at h
  · injection h with h; subst h; rfl
  · cases h
noncomputable def f70_O : Bool × (List HE) → Out := (fun y => ([.bool y.1], [(1000000000000, .hp y.2)]))
noncomputable def f70_un : Out → Option (Bool × (List HE))
  | ([.bool y0], [(1000000000000, .hp y1)]) => some (y0, y1)
  | _ => none
theorem f70_un_ok (o : Out) (y : Bool × (List HE)) (h : f70_un o = some y) : o = f70_O y := by
  unfold f70_un at h
  split at h
  · injection h with h; subst h; rfl
  · cases h
noncomputable def f70_msk : Nat → Option (List Nat) := fun key => bif key == 6 then some [0, 1, 2, 9] else none
noncomputable def f70_C (c67 : PV → Int → Int → Int → (List HE) → (Bool → (List HE) → R) → R) : Oracle := orc 67 f67_D f67_O (fun x ret => c67 x.1 x.2.1 x.2.2.1 x.2.2.2.1 x.2.2.2.2 (fun y0 y1 => ret (y0, y1))) <| orc0
noncomputable def f70_E (k : Nat) (c67 : PV → Int → Int → Int → (List HE) → (Bool → (List HE) → R) → R) : Env := { P := Try.prog, nilOwn := fun d => false, fldOwn := fun d i => false, ownPar := ownPars, ownRet := false, hpD := fun d => false, hpF := hpFs, hpNew := false, mask := f70_msk, fuel := k, C := f70_C c67 }
noncomputable def f70_code : Code := Try.f70.body.getD .skip
noncomputable def f70_cw1 : Code := subC f70_code [1, 0, 1, 0, 0]
noncomputable def f70_hw1_0 (p1 : PV) (n2 : Int) (n3 : Int) (n9 : Int) (h10 : List HE) : St := ⟨[.hval 51 p1, .int .i64 n2, .int .i64 n3, .dead, .dead, .dead, .dead, .dead, .dead, .int .i64 n9, .dead, .dead, .dead, .dead, .dead, .dead, .dead, .dead, .dead, .dead, .dead, .dead, .dead, .dead, .dead, .dead, .dead, .dead, .dead, .dead, .dead, .dead, .dead, .dead, .dead, .dead, .dead, .dead, .dead], [(1000000000000, .hp h10)]⟩
noncomputable def f70_w1A (k : Nat) (c67 : PV → Int → Int → Int → (List HE) → (Bool → (List HE) → R) → R) (retF : Bool × (List HE) → R) (p1 : PV) (n2 : Int) (n3 : Int) (n9 : Int) (h10 : List HE) : R := loopM (f70_E k c67) f70_cw1 (kont (f70_E k c67) f70_code [1, 0, 1, 0] (endK (f70_E k c67) Try.f70 [1000000000000] f70_un retF)) k (f70_hw1_0 p1 n2 n3 n9 h10)
noncomputable def f70_w1b0 (c67 : PV → Int → Int → Int → (List HE) → (Bool → (List HE) → R) → R) (ret0 : Bool → (List HE) → R) (next_w1_0 : Int → (List HE) → R) (p1 : PV) (n2 : Int) (n3 : Int) (n9 : Int) (h10 : List HE) : R :=
  bif (PV.isRp p1) then
    bif (true && true && (hokV h10 82 (PV.rI p1))) then
      bif (decide (n9 ≤ (PV.num (PV.fld (hvarOf h10 (PV.rI p1)) 1)))) then
        bif (PV.isRp p1) then
          bif (true && true && (hokV h10 82 (PV.rI p1))) then
            bif (true && decide ((0 : Int) ≤ n2) && decide (n2 < ((PV.rN (PV.fld (hvarOf h10 (PV.rI p1)) 2)) : Int))) then
              bif (true && true && (hokR h10 87 (PV.rI (PV.fld (hvarOf h10 (PV.rI p1)) 2)) n2)) then
                bif (true && decide ((0 : Int) ≤ n9) && decide (n9 < ((PV.rN (List.getD (hrowOf h10 (PV.rI (PV.fld (hvarOf h10 (PV.rI p1)) 2))) (n2).toNat PV.nil)) : Int))) then
                  bif (true && true && (hokR h10 4 (PV.rI (List.getD (hrowOf h10 (PV.rI (PV.fld (hvarOf h10 (PV.rI p1)) 2))) (n2).toNat PV.nil)) n9)) then
                    let b11 : Bool := (PV.tt (List.getD (hrowOf h10 (PV.rI (List.getD (hrowOf h10 (PV.rI (PV.fld (hvarOf h10 (PV.rI p1)) 2))) (n2).toNat PV.nil))) (n9).toNat PV.nil))
                    bif (b11 == true) then
                      bif (PV.isRp p1) then
                        bif (true && true && (hokV h10 82 (PV.rI p1))) then
                          c67 (PV.fld (hvarOf h10 (PV.rI p1)) 0) n2 n3 n9 h10 fun b12 h13 =>
                          bif b12 then
                            ret0 true h13
                          else next_w1_0 (IntKind.wrap .i64 (n9 + (1 : Int))) h13
                        else none
                      else none
                    else next_w1_0 (IntKind.wrap .i64 (n9 + (1 : Int))) h10
                  else none
                else none
              else none
            else none
          else none
        else none
      else ret0 false h10
    else none
  else none

theorem f70_w1b0_mem (k : Nat) (c67 : PV → Int → Int → Int → (List HE) → (Bool → (List HE) → R) → R) (retF : Bool × (List HE) → R) (NX_w1 : St → R) (p1 : PV) (n2 : Int) (n3 : Int) (n9 : Int) (h10 : List HE) : exec (f70_E k c67) f70_cw1 (purgeK (f70_E k c67) f70_cw1 (loopK NX_w1 (kont (f70_E k c67) f70_code [1, 0, 1, 0] (endK (f70_E k c67) Try.f70 [1000000000000] f70_un retF)))) (f70_hw1_0 p1 n2 n3 n9 h10) = f70_w1b0 c67 (fun y0 y1 => retF (y0, y1)) (fun n9 h10 => NX_w1 (f70_hw1_0 p1 n2 n3 n9 h10)) p1 n2 n3 n9 h10 := by kernel_rfl

noncomputable def f70_w1b0N (k : Nat) (c67 : PV → Int → Int → Int → (List HE) → (Bool → (List HE) → R) → R) (ret0 : Bool → (List HE) → R) (next_w1_0 : Int → (List HE) → R) (p1 : PV) (n2 : Int) (n3 : Int) (n9 : Int) (h10 : List HE) : R :=
  f70_w1b0 c67 ret0 next_w1_0 p1 n2 n3 n9 h10
theorem f70_w1b0_eq (k : Nat) (c67 : PV → Int → Int → Int → (List HE) → (Bool → (List HE) → R) → R) (retF : Bool × (List HE) → R) (NX_w1 : St → R) (p1 : PV) (n2 : Int) (n3 : Int) (n9 : Int) (h10 : List HE) : exec (f70_E k c67) f70_cw1 (purgeK (f70_E k c67) f70_cw1 (loopK NX_w1 (kont (f70_E k c67) f70_code [1, 0, 1, 0] (endK (f70_E k c67) Try.f70 [1000000000000] f70_un retF)))) (f70_hw1_0 p1 n2 n3 n9 h10) = f70_w1b0N k c67 (fun y0 y1 => retF (y0, y1)) (fun n9 h10 => NX_w1 (f70_hw1_0 p1 n2 n3 n9 h10)) p1 n2 n3 n9 h10 :=
  (f70_w1b0_mem k c67 retF NX_w1 p1 n2 n3 n9 h10)

noncomputable def f70_w1B (k : Nat) (c67 : PV → Int → Int → Int → (List HE) → (Bool → (List HE) → R) → R) (ret0 : Bool → (List HE) → R) (p1 : PV) (n2 : Int) (n3 : Int) (nx : Int × (List HE) → R) : Int × (List HE) → R := (fun s => f70_w1b0N k c67 ret0 (fun n9 h10 => nx (n9, h10)) p1 n2 n3 s.1 s.2)
noncomputable def f70_w1N (k : Nat) (c67 : PV → Int → Int → Int → (List HE) → (Bool → (List HE) → R) → R) (ret0 : Bool → (List HE) → R) (p1 : PV) (n2 : Int) (n3 : Int) (n9 : Int) (h10 : List HE) : R := loopR (f70_w1B k c67 ret0 p1 n2 n3) k (n9, h10)
theorem f70_w1_eq (k : Nat) (c67 : PV → Int → Int → Int → (List HE) → (Bool → (List HE) → R) → R) (retF : Bool × (List HE) → R) (p1 : PV) (n2 : Int) (n3 : Int) (n9 : Int) (h10 : List HE) : f70_w1A k c67 retF p1 n2 n3 n9 h10 = f70_w1N k c67 (fun y0 y1 => retF (y0, y1)) p1 n2 n3 n9 h10 :=
  Eq.mp (by kernel_rfl) (loop_sim (E := (f70_E k c67)) (c := f70_cw1) (K := (kont (f70_E k c67) f70_code [1, 0, 1, 0] (endK (f70_E k c67) Try.f70 [1000000000000] f70_un retF))) (S := Int × (List HE)) (fun s => f70_hw1_0 p1 n2 n3 s.1 s.2) (f70_w1B k c67 (fun y0 y1 => retF (y0, y1)) p1 n2 n3) (fun NX s => by
    exact Eq.mp (by kernel_rfl) (f70_w1b0_eq k c67 retF NX p1 n2 n3 s.1 s.2)) k (n9, h10))

noncomputable def f70_e (c67 : PV → Int → Int → Int → (List HE) → (Bool → (List HE) → R) → R) (ret0 : Bool → (List HE) → R) (w1 : Int → (List HE) → R) (p1 : PV) (n2 : Int) (n3 : Int) (n4 : Int) (h5 : List HE) : R :=
  w1 n4 h5

theorem f70_e_mem (k : Nat) (c67 : PV → Int → Int → Int → (List HE) → (Bool → (List HE) → R) → R) (retF : Bool × (List HE) → R) (p1 : PV) (n2 : Int) (n3 : Int) (n4 : Int) (h5 : List HE) : exec (f70_E k c67) f70_code (endK (f70_E k c67) Try.f70 [1000000000000] f70_un retF) ⟨[.hval 51 p1, .int .i64 n2, .int .i64 n3, .int .i64 n4, .undef, .undef, .undef, .undef, .undef, .undef, .undef, .undef, .undef, .undef, .undef, .undef, .undef, .undef, .undef, .undef, .undef, .undef, .undef, .undef, .undef, .undef, .undef, .undef, .undef, .undef, .undef, .undef, .undef, .undef, .undef, .undef, .undef, .undef, .undef], [(1000000000000, .hp h5)]⟩ = f70_e c67 (fun y0 y1 => retF (y0, y1)) (fun n9 h10 => f70_w1A k c67 retF p1 n2 n3 n9 h10) p1 n2 n3 n4 h5 := by kernel_rfl

noncomputable def f70_N (k : Nat) (c67 : PV → Int → Int → Int → (List HE) → (Bool → (List HE) → R) → R) (ret0 : Bool → (List HE) → R) (p1 : PV) (n2 : Int) (n3 : Int) (n4 : Int) (h5 : List HE) : R :=
  f70_e c67 ret0 (fun n9 h10 => f70_w1N k c67 ret0 p1 n2 n3 n9 h10) p1 n2 n3 n4 h5
theorem f70_eq (k : Nat) (c67 : PV → Int → Int → Int → (List HE) → (Bool → (List HE) → R) → R) (retF : Bool × (List HE) → R) (p1 : PV) (n2 : Int) (n3 : Int) (n4 : Int) (h5 : List HE) : exec (f70_E k c67) f70_code (endK (f70_E k c67) Try.f70 [1000000000000] f70_un retF) ⟨[.hval 51 p1, .int .i64 n2, .int .i64 n3, .int .i64 n4, .undef, .undef, .undef, .undef, .undef, .undef, .undef, .undef, .undef, .undef, .undef, .undef, .undef, .undef, .undef, .undef, .undef, .undef, .undef, .undef, .undef, .undef, .undef, .undef, .undef, .undef, .undef, .undef, .undef, .undef, .undef, .undef, .undef, .undef, .undef], [(1000000000000, .hp h5)]⟩ = f70_N k c67 (fun y0 y1 => retF (y0, y1)) p1 n2 n3 n4 h5 :=
  (f70_e_mem k c67 retF p1 n2 n3 n4 h5).trans (by rw [show (fun n9 h10 => f70_w1A k c67 retF p1 n2 n3 n9 h10) = (fun n9 h10 => f70_w1N k c67 (fun y0 y1 => retF (y0, y1)) p1 n2 n3 n9 h10) from funext fun n9 => funext fun h10 => f70_w1_eq k c67 retF p1 n2 n3 n9 h10]; rfl)

noncomputable def G70 : Nat → PV → Int → Int → Int → (List HE) → (Bool → (List HE) → R) → R
  | 0, _, _, _, _, _, _ => none
  | k + 1, p1, n2, n3, n4, h5, ret0 => f70_N k (G67 k) ret0 p1 n2 n3 n4 h5
theorem S70 : ∀ k, Snd Try.prog 70 f70_I f70_O (fun x ret => G70 k x.1 x.2.1 x.2.2.1 x.2.2.2.1 x.2.2.2.2 (fun y0 y1 => ret (y0, y1)))
  | 0 => snd_none
  | k + 1 => snd_step (E := f70_E k (G67 k)) rfl laidOut noNums (orc_ok (S67 k).o f67_D_ok orc0_ok) (f := 70) (fn := Try.f70) (code := f70_code) Try.func70 (by kernel_rfl) (drawsOk_of laidOut (orc_ok (S67 k).o f67_D_ok orc0_ok) mixed (by kernel_rfl)) f70_un f70_un_ok [1000000000000] (fun _ => rfl)
      (fun x ret => f70_eq k (G67 k) ret x.1 x.2.1 x.2.2.1 x.2.2.2.1 x.2.2.2.2)

/- (*catchpole/ahead.Ahead).spread -/
noncomputable def f69_I : PV × Int × (List HE) → List SV × Obs := fun x => ([.hval 51 x.1, .int .i64 x.2.1], [(1000000000000, .hp x.2.2)])
noncomputable def f69_D : List SV → Obs → Option (PV × Int × (List HE))
  | [.hval 51 p1, .int .i64 n2], [(1000000000000, .hp h3)] => some (p1, n2, h3)
  | _, _ => none
theorem f69_D_ok (args : List SV) (B : Obs) (x : PV × Int × (List HE)) (h : f69_D args B = some x) : f69_I x = (args, B) := by
  unfold f69_D at h
  split at h
  · injection h with h; subst h; rfl
  · cases h
noncomputable def f69_O : (List HE) → Out := (fun y => ([], [(1000000000000, .hp y)]))
noncomputable def f69_un : Out → Option ((List HE))
  | ([], [(1000000000000, .hp y0)]) => some y0
  | _ => none
theorem f69_un_ok (o : Out) (y : (List HE)) (h : f69_un o = some y) : o = f69_O y := by
  unfold f69_un at h
  split at h
  · injection h with h; subst h; rfl
  · cases h
noncomputable def f69_msk : Nat → Option (List Nat) := fun key => bif key == 6 then some [0, 1, 4, 22, 23, 24] else bif key == 30 then some [0, 4, 7, 54, 55] else bif key == 60 then some [0, 4, 9, 10] else none
noncomputable def f69_C (c70 : PV → Int → Int → Int → (List HE) → (Bool → (List HE) → R) → R) : Oracle := orc 70 f70_D f70_O (fun x ret => c70 x.1 x.2.1 x.2.2.1 x.2.2.2.1 x.2.2.2.2 (fun y0 y1 => ret (y0, y1))) <| orc0
noncomputable def f69_E (k : Nat) (c70 : PV → Int → Int → Int → (List HE) → (Bool → (List HE) → R) → R) : Env := { P := Try.prog, nilOwn := fun d => false, fldOwn := fun d i => false, ownPar := ownPars, ownRet := false, hpD := fun d => d == 52 || d == 87, hpF := hpFs, hpNew := false, mask := f69_msk, fuel := k, C := f69_C c70 }
noncomputable def f69_code : Code := Try.f69.body.getD .skip
noncomputable def f69_cw1 : Code := subC f69_code [1, 0, 1, 0, 0]
noncomputable def f69_hw1_0 (p1 : PV) (n2 : Int) (p4 : PV) (n33 : Int) (h34 : List HE) : St := ⟨[.hval 51 p1, .int .i64 n2, .dead, .dead, .ptr 4 [], .dead, .dead, .dead, .dead, .dead, .dead, .dead, .dead, .dead, .dead, .dead, .dead, .dead, .dead, .dead, .dead, .dead, .hval 44 (PV.fld p4 1), .int .i64 ((PV.rN (PV.fld p4 1)) : Int), .int .i64 n33, .dead, .dead, .dead, .dead, .dead, .dead, .dead, .dead, .dead, .dead, .dead, .dead, .dead, .dead, .dead, .dead, .dead, .dead, .dead, .dead, .dead, .dead, .dead, .dead, .dead, .dead, .dead, .dead, .dead, .dead, .dead, .dead, .dead, .dead, .dead, .dead, .dead, .dead, .dead, .dead, .dead, .dead, .dead, .dead, .dead, .dead, .dead, .dead, .dead, .dead, .dead, .dead, .dead, .dead, .dead, .dead, .dead, .dead, .dead, .dead, .dead, .dead, .dead, .dead, .dead, .dead, .dead, .dead, .dead, .dead, .dead, .dead, .dead, .dead, .dead, .dead, .dead, .dead, .dead, .dead, .dead, .dead, .dead, .dead, .dead, .dead, .dead, .dead, .dead, .dead, .dead, .dead, .dead, .dead, .dead, .dead, .dead, .dead, .dead, .dead, .dead, .dead, .dead, .dead, .dead, .dead, .dead, .dead], [(4, .box 118 (.hval 118 p4)), (1000000000000, .hp h34)]⟩
noncomputable def f69_w1A (k : Nat) (c70 : PV → Int → Int → Int → (List HE) → (Bool → (List HE) → R) → R) (retF : (List HE) → R) (p1 : PV) (n2 : Int) (p4 : PV) (n33 : Int) (h34 : List HE) : R := loopM (f69_E k c70) f69_cw1 (kont (f69_E k c70) f69_code [1, 0, 1, 0] (endK (f69_E k c70) Try.f69 [1000000000000] f69_un retF)) k (f69_hw1_0 p1 n2 p4 n33 h34)
noncomputable def f69_cw4 : Code := subC f69_code [1, 1, 1, 0, 1, 0, 1, 0, 1, 0, 0]
noncomputable def f69_hw4_0 (p1 : PV) (p4 : PV) (h34 : List HE) (n42 : Int) (h43 : List HE) : St := ⟨[.hval 51 p1, .dead, .dead, .dead, .ptr 4 [], .dead, .dead, .hval 87 (PV.rs (List.length h34) ((IntKind.wrap .i64 ((PV.num (PV.fld (hvarOf h34 (PV.rI p1)) 1)) + (1 : Int)))).toNat), .dead, .dead, .dead, .dead, .dead, .dead, .dead, .dead, .dead, .dead, .dead, .dead, .dead, .dead, .dead, .dead, .dead, .dead, .dead, .dead, .dead, .dead, .dead, .dead, .dead, .dead, .dead, .dead, .dead, .dead, .dead, .dead, .dead, .dead, .dead, .dead, .dead, .dead, .dead, .dead, .dead, .dead, .dead, .dead, .dead, .dead, .int .i64 (((IntKind.wrap .i64 ((PV.num (PV.fld (hvarOf h34 (PV.rI p1)) 1)) + (1 : Int)))).toNat : Int), .int .i64 n42, .dead, .dead, .dead, .dead, .dead, .dead, .dead, .dead, .dead, .dead, .dead, .dead, .dead, .dead, .dead, .dead, .dead, .dead, .dead, .dead, .dead, .dead, .dead, .dead, .dead, .dead, .dead, .dead, .dead, .dead, .dead, .dead, .dead, .dead, .dead, .dead, .dead, .dead, .dead, .dead, .dead, .dead, .dead, .dead, .dead, .dead, .dead, .dead, .dead, .dead, .dead, .dead, .dead, .dead, .dead, .dead, .dead, .dead, .dead, .dead, .dead, .dead, .dead, .dead, .dead, .dead, .dead, .dead, .dead, .dead, .dead, .dead, .dead, .dead, .dead, .dead, .dead], [(4, .box 118 (.hval 118 p4)), (1000000000000, .hp h43)]⟩
noncomputable def f69_w4A (k : Nat) (c70 : PV → Int → Int → Int → (List HE) → (Bool → (List HE) → R) → R) (retF : (List HE) → R) (p1 : PV) (p4 : PV) (h34 : List HE) (n42 : Int) (h43 : List HE) : R := loopM (f69_E k c70) f69_cw4 (kont (f69_E k c70) f69_code [1, 1, 1, 0, 1, 0, 1, 0, 1, 0] (endK (f69_E k c70) Try.f69 [1000000000000] f69_un retF)) k (f69_hw4_0 p1 p4 h34 n42 h43)
noncomputable def f69_w4b0 (c70 : PV → Int → Int → Int → (List HE) → (Bool → (List HE) → R) → R) (ret0 : (List HE) → R) (next_w4_0 : Int → (List HE) → R) (p1 : PV) (p4 : PV) (h34 : List HE) (n42 : Int) (h43 : List HE) : R :=
  let b44 : Bool := (decide (n42 < (((IntKind.wrap .i64 ((PV.num (PV.fld (hvarOf h34 (PV.rI p1)) 1)) + (1 : Int)))).toNat : Int)))
  bif b44 then
    bif (true && decide ((0 : Int) ≤ (1 : Int)) && decide ((1 : Int) < ((PV.rN (PV.fld p4 1)) : Int))) then
      bif (true && true && (hokR h43 3 (PV.rI (PV.fld p4 1)) (1 : Int))) then
        c70 p1 (PV.num (List.getD (hrowOf h43 (PV.rI (PV.fld p4 1))) ((1 : Int)).toNat PV.nil)) n42 n42 h43 fun b45 h46 =>
        bif (true && decide ((0 : Int) ≤ n42) && decide (n42 < (((IntKind.wrap .i64 ((PV.num (PV.fld (hvarOf h34 (PV.rI p1)) 1)) + (1 : Int)))).toNat : Int))) then
          bif (true && (hokR h46 4 (List.length h34) n42)) then
            let h47 : List HE := (List.set h46 (List.length h34) (HE.row 4 (List.set (hrowOf h46 (List.length h34)) (n42).toNat (PV.bool b45))))
            next_w4_0 (IntKind.wrap .i64 (n42 + (1 : Int))) h47
          else none
        else none
      else none
    else none
  else bif (PV.isRp p1) then
    bif (true && true && (hokV h43 82 (PV.rI p1))) then
      bif (true && decide ((0 : Int) ≤ (0 : Int)) && decide ((0 : Int) < ((PV.rN (PV.fld p4 1)) : Int))) then
        bif (true && true && (hokR h43 3 (PV.rI (PV.fld p4 1)) (0 : Int))) then
          bif (true && decide ((0 : Int) ≤ (PV.num (List.getD (hrowOf h43 (PV.rI (PV.fld p4 1))) ((0 : Int)).toNat PV.nil))) && decide ((PV.num (List.getD (hrowOf h43 (PV.rI (PV.fld p4 1))) ((0 : Int)).toNat PV.nil)) < ((PV.rN (PV.fld (hvarOf h43 (PV.rI p1)) 2)) : Int))) then
            bif (true && (hokR h43 87 (PV.rI (PV.fld (hvarOf h43 (PV.rI p1)) 2)) (PV.num (List.getD (hrowOf h43 (PV.rI (PV.fld p4 1))) ((0 : Int)).toNat PV.nil)))) then
              let h48 : List HE := (List.set h43 (PV.rI (PV.fld (hvarOf h43 (PV.rI p1)) 2)) (HE.row 87 (List.set (hrowOf h43 (PV.rI (PV.fld (hvarOf h43 (PV.rI p1)) 2))) ((PV.num (List.getD (hrowOf h43 (PV.rI (PV.fld p4 1))) ((0 : Int)).toNat PV.nil))).toNat (PV.rs (List.length h34) ((IntKind.wrap .i64 ((PV.num (PV.fld (hvarOf h34 (PV.rI p1)) 1)) + (1 : Int)))).toNat))))
              ret0 h48
            else none
          else none
        else none
      else none
    else none
  else none

theorem f69_w4b0_mem (k : Nat) (c70 : PV → Int → Int → Int → (List HE) → (Bool → (List HE) → R) → R) (retF : (List HE) → R) (NX_w4 : St → R) (p1 : PV) (p4 : PV) (h34 : List HE) (n42 : Int) (h43 : List HE) : exec (f69_E k c70) f69_cw4 (purgeK (f69_E k c70) f69_cw4 (loopK NX_w4 (kont (f69_E k c70) f69_code [1, 1, 1, 0, 1, 0, 1, 0, 1, 0] (endK (f69_E k c70) Try.f69 [1000000000000] f69_un retF)))) (f69_hw4_0 p1 p4 h34 n42 h43) = f69_w4b0 c70 (fun y0 => retF y0) (fun n42 h43 => NX_w4 (f69_hw4_0 p1 p4 h34 n42 h43)) p1 p4 h34 n42 h43 := by kernel_rfl

noncomputable def f69_w4b0N (k : Nat) (c70 : PV → Int → Int → Int → (List HE) → (Bool → (List HE) → R) → R) (ret0 : (List HE) → R) (next_w4_0 : Int → (List HE) → R) (p1 : PV) (p4 : PV) (h34 : List HE) (n42 : Int) (h43 : List HE) : R :=
  f69_w4b0 c70 ret0 next_w4_0 p1 p4 h34 n42 h43
theorem f69_w4b0_eq (k : Nat) (c70 : PV → Int → Int → Int → (List HE) → (Bool → (List HE) → R) → R) (retF : (List HE) → R) (NX_w4 : St → R) (p1 : PV) (p4 : PV) (h34 : List HE) (n42 : Int) (h43 : List HE) : exec (f69_E k c70) f69_cw4 (purgeK (f69_E k c70) f69_cw4 (loopK NX_w4 (kont (f69_E k c70) f69_code [1, 1, 1, 0, 1, 0, 1, 0, 1, 0] (endK (f69_E k c70) Try.f69 [1000000000000] f69_un retF)))) (f69_hw4_0 p1 p4 h34 n42 h43) = f69_w4b0N k c70 (fun y0 => retF y0) (fun n42 h43 => NX_w4 (f69_hw4_0 p1 p4 h34 n42 h43)) p1 p4 h34 n42 h43 :=
  (f69_w4b0_mem k c70 retF NX_w4 p1 p4 h34 n42 h43)

noncomputable def f69_w4B (k : Nat) (c70 : PV → Int → Int → Int → (List HE) → (Bool → (List HE) → R) → R) (ret0 : (List HE) → R) (p1 : PV) (p4 : PV) (h34 : List HE) (nx : Int × (List HE) → R) : Int × (List HE) → R := (fun s => f69_w4b0N k c70 ret0 (fun n42 h43 => nx (n42, h43)) p1 p4 h34 s.1 s.2)
noncomputable def f69_w4N (k : Nat) (c70 : PV → Int → Int → Int → (List HE) → (Bool → (List HE) → R) → R) (ret0 : (List HE) → R) (p1 : PV) (p4 : PV) (h34 : List HE) (n42 : Int) (h43 : List HE) : R := loopR (f69_w4B k c70 ret0 p1 p4 h34) k (n42, h43)
theorem f69_w4_eq (k : Nat) (c70 : PV → Int → Int → Int → (List HE) → (Bool → (List HE) → R) → R) (retF : (List HE) → R) (p1 : PV) (p4 : PV) (h34 : List HE) (n42 : Int) (h43 : List HE) : f69_w4A k c70 retF p1 p4 h34 n42 h43 = f69_w4N k c70 (fun y0 => retF y0) p1 p4 h34 n42 h43 :=
  Eq.mp (by kernel_rfl) (loop_sim (E := (f69_E k c70)) (c := f69_cw4) (K := (kont (f69_E k c70) f69_code [1, 1, 1, 0, 1, 0, 1, 0, 1, 0] (endK (f69_E k c70) Try.f69 [1000000000000] f69_un retF))) (S := Int × (List HE)) (fun s => f69_hw4_0 p1 p4 h34 s.1 s.2) (f69_w4B k c70 (fun y0 => retF y0) p1 p4 h34) (fun NX s => by
    exact Eq.mp (by kernel_rfl) (f69_w4b0_eq k c70 retF NX p1 p4 h34 s.1 s.2)) k (n42, h43))

noncomputable def f69_cw5 : Code := subC f69_code [1, 1, 1, 0, 1, 1, 1, 0, 1, 1, 1, 1, 0, 0]
noncomputable def f69_hw5_0 (p1 : PV) (p4 : PV) (h34 : List HE) (n57 : Int) (h58 : List HE) : St := ⟨[.hval 51 p1, .dead, .dead, .dead, .ptr 4 [], .dead, .dead, .dead, .dead, .hval 87 (PV.rs (List.length h34) ((IntKind.wrap .i64 ((PV.num (PV.fld (hvarOf h34 (PV.rI p1)) 1)) + (1 : Int)))).toNat), .int .i64 n57, .dead, .dead, .dead, .dead, .dead, .dead, .dead, .dead, .dead, .dead, .dead, .dead, .dead, .dead, .dead, .dead, .dead, .dead, .dead, .dead, .dead, .dead, .dead, .dead, .dead, .dead, .dead, .dead, .dead, .dead, .dead, .dead, .dead, .dead, .dead, .dead, .dead, .dead, .dead, .dead, .dead, .dead, .dead, .dead, .dead, .dead, .dead, .dead, .dead, .dead, .dead, .dead, .dead, .dead, .dead, .dead, .dead, .dead, .dead, .dead, .dead, .dead, .dead, .dead, .dead, .dead, .dead, .dead, .dead, .dead, .dead, .dead, .dead, .dead, .dead, .dead, .dead, .dead, .dead, .dead, .dead, .dead, .dead, .dead, .dead, .dead, .dead, .dead, .dead, .dead, .dead, .dead, .dead, .dead, .dead, .dead, .dead, .dead, .dead, .dead, .dead, .dead, .dead, .dead, .dead, .dead, .dead, .dead, .dead, .dead, .dead, .dead, .dead, .dead, .dead, .dead, .dead, .dead, .dead, .dead, .dead, .dead], [(4, .box 118 (.hval 118 p4)), (1000000000000, .hp h58)]⟩
noncomputable def f69_w5A (k : Nat) (c70 : PV → Int → Int → Int → (List HE) → (Bool → (List HE) → R) → R) (retF : (List HE) → R) (p1 : PV) (p4 : PV) (h34 : List HE) (n57 : Int) (h58 : List HE) : R := loopM (f69_E k c70) f69_cw5 (kont (f69_E k c70) f69_code [1, 1, 1, 0, 1, 1, 1, 0, 1, 1, 1, 1, 0] (endK (f69_E k c70) Try.f69 [1000000000000] f69_un retF)) k (f69_hw5_0 p1 p4 h34 n57 h58)
noncomputable def f69_w5b0 (c70 : PV → Int → Int → Int → (List HE) → (Bool → (List HE) → R) → R) (ret0 : (List HE) → R) (next_w5_0 : Int → (List HE) → R) (p1 : PV) (p4 : PV) (h34 : List HE) (n57 : Int) (h58 : List HE) : R :=
  bif (decide ((0 : Int) ≤ n57)) then
    bif (true && decide ((0 : Int) ≤ n57) && decide (n57 < (((IntKind.wrap .i64 ((PV.num (PV.fld (hvarOf h34 (PV.rI p1)) 1)) + (1 : Int)))).toNat : Int))) then
      bif (true && true && (hokR h58 4 (List.length h34) n57)) then
        bif ((PV.tt (List.getD (hrowOf h58 (List.length h34)) (n57).toNat PV.nil)) == false) then
          bif (true && decide ((0 : Int) ≤ (0 : Int)) && decide ((0 : Int) < ((PV.rN (PV.fld p4 1)) : Int))) then
            bif (true && true && (hokR h58 3 (PV.rI (PV.fld p4 1)) (0 : Int))) then
              c70 p1 (PV.num (List.getD (hrowOf h58 (PV.rI (PV.fld p4 1))) ((0 : Int)).toNat PV.nil)) n57 (IntKind.wrap .i64 (n57 + (1 : Int))) h58 fun b59 h60 =>
              bif (true && decide ((0 : Int) ≤ n57) && decide (n57 < (((IntKind.wrap .i64 ((PV.num (PV.fld (hvarOf h34 (PV.rI p1)) 1)) + (1 : Int)))).toNat : Int))) then
                bif (true && (hokR h60 4 (List.length h34) n57)) then
                  let h61 : List HE := (List.set h60 (List.length h34) (HE.row 4 (List.set (hrowOf h60 (List.length h34)) (n57).toNat (PV.bool b59))))
                  next_w5_0 (IntKind.wrap .i64 (n57 - (1 : Int))) h61
                else none
              else none
            else none
          else none
        else bif (true && decide ((0 : Int) ≤ n57) && decide (n57 < (((IntKind.wrap .i64 ((PV.num (PV.fld (hvarOf h34 (PV.rI p1)) 1)) + (1 : Int)))).toNat : Int))) then
          bif (true && (hokR h58 4 (List.length h34) n57)) then
            let h62 : List HE := (List.set h58 (List.length h34) (HE.row 4 (List.set (hrowOf h58 (List.length h34)) (n57).toNat (PV.bool true))))
            next_w5_0 (IntKind.wrap .i64 (n57 - (1 : Int))) h62
          else none
        else none
      else none
    else none
  else ret0 h58

theorem f69_w5b0_mem (k : Nat) (c70 : PV → Int → Int → Int → (List HE) → (Bool → (List HE) → R) → R) (retF : (List HE) → R) (NX_w5 : St → R) (p1 : PV) (p4 : PV) (h34 : List HE) (n57 : Int) (h58 : List HE) : exec (f69_E k c70) f69_cw5 (purgeK (f69_E k c70) f69_cw5 (loopK NX_w5 (kont (f69_E k c70) f69_code [1, 1, 1, 0, 1, 1, 1, 0, 1, 1, 1, 1, 0] (endK (f69_E k c70) Try.f69 [1000000000000] f69_un retF)))) (f69_hw5_0 p1 p4 h34 n57 h58) = f69_w5b0 c70 (fun y0 => retF y0) (fun n57 h58 => NX_w5 (f69_hw5_0 p1 p4 h34 n57 h58)) p1 p4 h34 n57 h58 := by kernel_rfl

noncomputable def f69_w5b0N (k : Nat) (c70 : PV → Int → Int → Int → (List HE) → (Bool → (List HE) → R) → R) (ret0 : (List HE) → R) (next_w5_0 : Int → (List HE) → R) (p1 : PV) (p4 : PV) (h34 : List HE) (n57 : Int) (h58 : List HE) : R :=
  f69_w5b0 c70 ret0 next_w5_0 p1 p4 h34 n57 h58
theorem f69_w5b0_eq (k : Nat) (c70 : PV → Int → Int → Int → (List HE) → (Bool → (List HE) → R) → R) (retF : (List HE) → R) (NX_w5 : St → R) (p1 : PV) (p4 : PV) (h34 : List HE) (n57 : Int) (h58 : List HE) : exec (f69_E k c70) f69_cw5 (purgeK (f69_E k c70) f69_cw5 (loopK NX_w5 (kont (f69_E k c70) f69_code [1, 1, 1, 0, 1, 1, 1, 0, 1, 1, 1, 1, 0] (endK (f69_E k c70) Try.f69 [1000000000000] f69_un retF)))) (f69_hw5_0 p1 p4 h34 n57 h58) = f69_w5b0N k c70 (fun y0 => retF y0) (fun n57 h58 => NX_w5 (f69_hw5_0 p1 p4 h34 n57 h58)) p1 p4 h34 n57 h58 :=
  (f69_w5b0_mem k c70 retF NX_w5 p1 p4 h34 n57 h58)

noncomputable def f69_w5B (k : Nat) (c70 : PV → Int → Int → Int → (List HE) → (Bool → (List HE) → R) → R) (ret0 : (List HE) → R) (p1 : PV) (p4 : PV) (h34 : List HE) (nx : Int × (List HE) → R) : Int × (List HE) → R := (fun s => f69_w5b0N k c70 ret0 (fun n57 h58 => nx (n57, h58)) p1 p4 h34 s.1 s.2)
noncomputable def f69_w5N (k : Nat) (c70 : PV → Int → Int → Int → (List HE) → (Bool → (List HE) → R) → R) (ret0 : (List HE) → R) (p1 : PV) (p4 : PV) (h34 : List HE) (n57 : Int) (h58 : List HE) : R := loopR (f69_w5B k c70 ret0 p1 p4 h34) k (n57, h58)
theorem f69_w5_eq (k : Nat) (c70 : PV → Int → Int → Int → (List HE) → (Bool → (List HE) → R) → R) (retF : (List HE) → R) (p1 : PV) (p4 : PV) (h34 : List HE) (n57 : Int) (h58 : List HE) : f69_w5A k c70 retF p1 p4 h34 n57 h58 = f69_w5N k c70 (fun y0 => retF y0) p1 p4 h34 n57 h58 :=
  Eq.mp (by kernel_rfl) (loop_sim (E := (f69_E k c70)) (c := f69_cw5) (K := (kont (f69_E k c70) f69_code [1, 1, 1, 0, 1, 1, 1, 0, 1, 1, 1, 1, 0] (endK (f69_E k c70) Try.f69 [1000000000000] f69_un retF))) (S := Int × (List HE)) (fun s => f69_hw5_0 p1 p4 h34 s.1 s.2) (f69_w5B k c70 (fun y0 => retF y0) p1 p4 h34) (fun NX s => by
    exact Eq.mp (by kernel_rfl) (f69_w5b0_eq k c70 retF NX p1 p4 h34 s.1 s.2)) k (n57, h58))

noncomputable def f69_w1b0 (c70 : PV → Int → Int → Int → (List HE) → (Bool → (List HE) → R) → R) (ret0 : (List HE) → R) (w4 : Int → (List HE) → R) (w5 : Int → (List HE) → R) (next_w1_0 : Int → (List HE) → R) (p1 : PV) (n2 : Int) (p4 : PV) (n33 : Int) (h34 : List HE) : R :=
  bif (decide (n33 < ((PV.rN (PV.fld p4 1)) : Int))) then
    bif (true && decide ((0 : Int) ≤ n33) && decide (n33 < ((PV.rN (PV.fld p4 1)) : Int))) then
      bif (true && true && (hokR h34 3 (PV.rI (PV.fld p4 1)) n33)) then
        bif (PV.isRp p1) then
          bif (true && true && (hokV h34 82 (PV.rI p1))) then
            bif (PV.isRp p1) then
              bif (true && true && (hokV h34 82 (PV.rI p1))) then
                bif (true && decide ((0 : Int) ≤ n2) && decide (n2 < ((PV.rN (PV.fld (hvarOf h34 (PV.rI p1)) 2)) : Int))) then
                  bif (true && true && (hokR h34 87 (PV.rI (PV.fld (hvarOf h34 (PV.rI p1)) 2)) n2)) then
                    bif (true && decide ((0 : Int) ≤ (PV.num (List.getD (hrowOf h34 (PV.rI (PV.fld p4 1))) (n33).toNat PV.nil))) && decide ((PV.num (List.getD (hrowOf h34 (PV.rI (PV.fld p4 1))) (n33).toNat PV.nil)) < ((PV.rN (PV.fld (hvarOf h34 (PV.rI p1)) 2)) : Int))) then
                      bif (true && (hokR h34 87 (PV.rI (PV.fld (hvarOf h34 (PV.rI p1)) 2)) (PV.num (List.getD (hrowOf h34 (PV.rI (PV.fld p4 1))) (n33).toNat PV.nil)))) then
                        let h35 : List HE := (List.set h34 (PV.rI (PV.fld (hvarOf h34 (PV.rI p1)) 2)) (HE.row 87 (List.set (hrowOf h34 (PV.rI (PV.fld (hvarOf h34 (PV.rI p1)) 2))) ((PV.num (List.getD (hrowOf h34 (PV.rI (PV.fld p4 1))) (n33).toNat PV.nil))).toNat (List.getD (hrowOf h34 (PV.rI (PV.fld (hvarOf h34 (PV.rI p1)) 2))) (n2).toNat PV.nil))))
                        next_w1_0 (IntKind.wrap .i64 (n33 + (1 : Int))) h35
                      else none
                    else none
                  else none
                else none
              else none
            else none
          else none
        else none
      else none
    else none
  else bif (decide ((PV.num (PV.fld (PV.fld p4 0) 0)) = (3 : Int))) then
    bif (PV.isRp p1) then
      bif (true && true && (hokV h34 82 (PV.rI p1))) then
        bif (true && (true && decide ((0 : Int) ≤ (IntKind.wrap .i64 ((PV.num (PV.fld (hvarOf h34 (PV.rI p1)) 1)) + (1 : Int)))) && decide ((IntKind.wrap .i64 ((PV.num (PV.fld (hvarOf h34 (PV.rI p1)) 1)) + (1 : Int))) = (IntKind.wrap .i64 ((PV.num (PV.fld (hvarOf h34 (PV.rI p1)) 1)) + (1 : Int)))) && roomy ((IntKind.wrap .i64 ((PV.num (PV.fld (hvarOf h34 (PV.rI p1)) 1)) + (1 : Int)))).toNat 1)) then
          let h36 : List HE := (h34 ++ [HE.row 4 (List.replicate ((IntKind.wrap .i64 ((PV.num (PV.fld (hvarOf h34 (PV.rI p1)) 1)) + (1 : Int)))).toNat (PV.bool false))])
          w4 0 h36
        else none
      else none
    else none
  else bif (decide ((PV.num (PV.fld (PV.fld p4 0) 0)) = (5 : Int))) then
    bif (PV.isRp p1) then
      bif (true && true && (hokV h34 82 (PV.rI p1))) then
        bif (true && (true && decide ((0 : Int) ≤ (IntKind.wrap .i64 ((PV.num (PV.fld (hvarOf h34 (PV.rI p1)) 1)) + (1 : Int)))) && decide ((IntKind.wrap .i64 ((PV.num (PV.fld (hvarOf h34 (PV.rI p1)) 1)) + (1 : Int))) = (IntKind.wrap .i64 ((PV.num (PV.fld (hvarOf h34 (PV.rI p1)) 1)) + (1 : Int)))) && roomy ((IntKind.wrap .i64 ((PV.num (PV.fld (hvarOf h34 (PV.rI p1)) 1)) + (1 : Int)))).toNat 1)) then
          let h49 : List HE := (h34 ++ [HE.row 4 (List.replicate ((IntKind.wrap .i64 ((PV.num (PV.fld (hvarOf h34 (PV.rI p1)) 1)) + (1 : Int)))).toNat (PV.bool false))])
          bif (PV.isRp p1) then
            bif (true && true && (hokV h49 82 (PV.rI p1))) then
              bif (true && decide ((0 : Int) ≤ n2) && decide (n2 < ((PV.rN (PV.fld (hvarOf h49 (PV.rI p1)) 2)) : Int))) then
                bif (true && true && (hokR h49 87 (PV.rI (PV.fld (hvarOf h49 (PV.rI p1)) 2)) n2)) then
                  bif (hokS h49 4 (PV.rs (List.length h34) ((IntKind.wrap .i64 ((PV.num (PV.fld (hvarOf h34 (PV.rI p1)) 1)) + (1 : Int)))).toNat) && hokS h49 4 (List.getD (hrowOf h49 (PV.rI (PV.fld (hvarOf h49 (PV.rI p1)) 2))) (n2).toNat PV.nil) && (true && (PV.isRs (List.getD (hrowOf h49 (PV.rI (PV.fld (hvarOf h49 (PV.rI p1)) 2))) (n2).toNat PV.nil))) && true && true && true && true && true) then
                    let h50 : List HE := (List.set h49 (List.length h34) (HE.row 4 (List.take ((IntKind.wrap .i64 ((PV.num (PV.fld (hvarOf h34 (PV.rI p1)) 1)) + (1 : Int)))).toNat (hels h49 (List.getD (hrowOf h49 (PV.rI (PV.fld (hvarOf h49 (PV.rI p1)) 2))) (n2).toNat PV.nil)) ++ List.drop (PV.rN (List.getD (hrowOf h49 (PV.rI (PV.fld (hvarOf h49 (PV.rI p1)) 2))) (n2).toNat PV.nil)) (hels h49 (PV.rs (List.length h34) ((IntKind.wrap .i64 ((PV.num (PV.fld (hvarOf h34 (PV.rI p1)) 1)) + (1 : Int)))).toNat)))))
                    bif (PV.isRp p1) then
                      bif (true && true && (hokV h50 82 (PV.rI p1))) then
                        bif (true && decide ((0 : Int) ≤ (0 : Int)) && decide ((0 : Int) < ((PV.rN (PV.fld p4 1)) : Int))) then
                          bif (true && true && (hokR h50 3 (PV.rI (PV.fld p4 1)) (0 : Int))) then
                            bif (true && decide ((0 : Int) ≤ (PV.num (List.getD (hrowOf h50 (PV.rI (PV.fld p4 1))) ((0 : Int)).toNat PV.nil))) && decide ((PV.num (List.getD (hrowOf h50 (PV.rI (PV.fld p4 1))) ((0 : Int)).toNat PV.nil)) < ((PV.rN (PV.fld (hvarOf h50 (PV.rI p1)) 2)) : Int))) then
                              bif (true && (hokR h50 87 (PV.rI (PV.fld (hvarOf h50 (PV.rI p1)) 2)) (PV.num (List.getD (hrowOf h50 (PV.rI (PV.fld p4 1))) ((0 : Int)).toNat PV.nil)))) then
                                let h51 : List HE := (List.set h50 (PV.rI (PV.fld (hvarOf h50 (PV.rI p1)) 2)) (HE.row 87 (List.set (hrowOf h50 (PV.rI (PV.fld (hvarOf h50 (PV.rI p1)) 2))) ((PV.num (List.getD (hrowOf h50 (PV.rI (PV.fld p4 1))) ((0 : Int)).toNat PV.nil))).toNat (PV.rs (List.length h34) ((IntKind.wrap .i64 ((PV.num (PV.fld (hvarOf h34 (PV.rI p1)) 1)) + (1 : Int)))).toNat))))
                                bif (PV.isRp p1) then
                                  bif (true && true && (hokV h51 82 (PV.rI p1))) then
                                    w5 (PV.num (PV.fld (hvarOf h51 (PV.rI p1)) 1)) h51
                                  else none
                                else none
                              else none
                            else none
                          else none
                        else none
                      else none
                    else none
                  else none
                else none
              else none
            else none
          else none
        else none
      else none
    else none
  else ret0 h34

theorem f69_w1b0_mem (k : Nat) (c70 : PV → Int → Int → Int → (List HE) → (Bool → (List HE) → R) → R) (retF : (List HE) → R) (NX_w1 : St → R) (p1 : PV) (n2 : Int) (p4 : PV) (n33 : Int) (h34 : List HE) : exec (f69_E k c70) f69_cw1 (purgeK (f69_E k c70) f69_cw1 (loopK NX_w1 (kont (f69_E k c70) f69_code [1, 0, 1, 0] (endK (f69_E k c70) Try.f69 [1000000000000] f69_un retF)))) (f69_hw1_0 p1 n2 p4 n33 h34) = f69_w1b0 c70 (fun y0 => retF y0) (fun n42 h43 => f69_w4A k c70 retF p1 p4 h34 n42 h43) (fun n57 h58 => f69_w5A k c70 retF p1 p4 h34 n57 h58) (fun n33 h34 => NX_w1 (f69_hw1_0 p1 n2 p4 n33 h34)) p1 n2 p4 n33 h34 := by kernel_rfl

noncomputable def f69_w1b0N (k : Nat) (c70 : PV → Int → Int → Int → (List HE) → (Bool → (List HE) → R) → R) (ret0 : (List HE) → R) (next_w1_0 : Int → (List HE) → R) (p1 : PV) (n2 : Int) (p4 : PV) (n33 : Int) (h34 : List HE) : R :=
  f69_w1b0 c70 ret0 (fun n42 h43 => f69_w4N k c70 ret0 p1 p4 h34 n42 h43) (fun n57 h58 => f69_w5N k c70 ret0 p1 p4 h34 n57 h58) next_w1_0 p1 n2 p4 n33 h34
theorem f69_w1b0_eq (k : Nat) (c70 : PV → Int → Int → Int → (List HE) → (Bool → (List HE) → R) → R) (retF : (List HE) → R) (NX_w1 : St → R) (p1 : PV) (n2 : Int) (p4 : PV) (n33 : Int) (h34 : List HE) : exec (f69_E k c70) f69_cw1 (purgeK (f69_E k c70) f69_cw1 (loopK NX_w1 (kont (f69_E k c70) f69_code [1, 0, 1, 0] (endK (f69_E k c70) Try.f69 [1000000000000] f69_un retF)))) (f69_hw1_0 p1 n2 p4 n33 h34) = f69_w1b0N k c70 (fun y0 => retF y0) (fun n33 h34 => NX_w1 (f69_hw1_0 p1 n2 p4 n33 h34)) p1 n2 p4 n33 h34 :=
  (f69_w1b0_mem k c70 retF NX_w1 p1 n2 p4 n33 h34).trans (by rw [show (fun n42 h43 => f69_w4A k c70 retF p1 p4 h34 n42 h43) = (fun n42 h43 => f69_w4N k c70 (fun y0 => retF y0) p1 p4 h34 n42 h43) from funext fun n42 => funext fun h43 => f69_w4_eq k c70 retF p1 p4 h34 n42 h43, show (fun n57 h58 => f69_w5A k c70 retF p1 p4 h34 n57 h58) = (fun n57 h58 => f69_w5N k c70 (fun y0 => retF y0) p1 p4 h34 n57 h58) from funext fun n57 => funext fun h58 => f69_w5_eq k c70 retF p1 p4 h34 n57 h58]; rfl)

noncomputable def f69_w1B (k : Nat) (c70 : PV → Int → Int → Int → (List HE) → (Bool → (List HE) → R) → R) (ret0 : (List HE) → R) (p1 : PV) (n2 : Int) (p4 : PV) (nx : Int × (List HE) → R) : Int × (List HE) → R := (fun s => f69_w1b0N k c70 ret0 (fun n33 h34 => nx (n33, h34)) p1 n2 p4 s.1 s.2)
noncomputable def f69_w1N (k : Nat) (c70 : PV → Int → Int → Int → (List HE) → (Bool → (List HE) → R) → R) (ret0 : (List HE) → R) (p1 : PV) (n2 : Int) (p4 : PV) (n33 : Int) (h34 : List HE) : R := loopR (f69_w1B k c70 ret0 p1 n2 p4) k (n33, h34)
theorem f69_w1_eq (k : Nat) (c70 : PV → Int → Int → Int → (List HE) → (Bool → (List HE) → R) → R) (retF : (List HE) → R) (p1 : PV) (n2 : Int) (p4 : PV) (n33 : Int) (h34 : List HE) : f69_w1A k c70 retF p1 n2 p4 n33 h34 = f69_w1N k c70 (fun y0 => retF y0) p1 n2 p4 n33 h34 :=
  Eq.mp (by kernel_rfl) (loop_sim (E := (f69_E k c70)) (c := f69_cw1) (K := (kont (f69_E k c70) f69_code [1, 0, 1, 0] (endK (f69_E k c70) Try.f69 [1000000000000] f69_un retF))) (S := Int × (List HE)) (fun s => f69_hw1_0 p1 n2 p4 s.1 s.2) (f69_w1B k c70 (fun y0 => retF y0) p1 n2 p4) (fun NX s => by
    exact Eq.mp (by kernel_rfl) (f69_w1b0_eq k c70 retF NX p1 n2 p4 s.1 s.2)) k (n33, h34))

noncomputable def f69_e (c70 : PV → Int → Int → Int → (List HE) → (Bool → (List HE) → R) → R) (ret0 : (List HE) → R) (w1 : PV → Int → (List HE) → R) (p1 : PV) (n2 : Int) (h3 : List HE) : R :=
  bif (PV.isRp p1) then
    bif (true && true && (hokV h3 82 (PV.rI p1))) then
      bif (PV.isRp (PV.fld (hvarOf h3 (PV.rI p1)) 0)) then
        bif (true && true && (hokV h3 86 (PV.rI (PV.fld (hvarOf h3 (PV.rI p1)) 0)))) then
          bif (true && decide ((0 : Int) ≤ n2) && decide (n2 < ((PV.rN (PV.fld (hvarOf h3 (PV.rI (PV.fld (hvarOf h3 (PV.rI p1)) 0))) 0)) : Int))) then
            bif (true && true && (hokR h3 118 (PV.rI (PV.fld (hvarOf h3 (PV.rI (PV.fld (hvarOf h3 (PV.rI p1)) 0))) 0)) n2)) then
              let p4 : PV := (List.getD (hrowOf h3 (PV.rI (PV.fld (hvarOf h3 (PV.rI (PV.fld (hvarOf h3 (PV.rI p1)) 0))) 0))) (n2).toNat PV.nil)
              w1 p4 0 h3
            else none
          else none
        else none
      else none
    else none
  else none

theorem f69_e_mem (k : Nat) (c70 : PV → Int → Int → Int → (List HE) → (Bool → (List HE) → R) → R) (retF : (List HE) → R) (p1 : PV) (n2 : Int) (h3 : List HE) : exec (f69_E k c70) f69_code (endK (f69_E k c70) Try.f69 [1000000000000] f69_un retF) ⟨[.hval 51 p1, .int .i64 n2, .undef, .undef, .undef, .undef, .undef, .undef, .undef, .undef, .undef, .undef, .undef, .undef, .undef, .undef, .undef, .undef, .undef, .undef, .undef, .undef, .undef, .undef, .undef, .undef, .undef, .undef, .undef, .undef, .undef, .undef, .undef, .undef, .undef, .undef, .undef, .undef, .undef, .undef, .undef, .undef, .undef, .undef, .undef, .undef, .undef, .undef, .undef, .undef, .undef, .undef, .undef, .undef, .undef, .undef, .undef, .undef, .undef, .undef, .undef, .undef, .undef, .undef, .undef, .undef, .undef, .undef, .undef, .undef, .undef, .undef, .undef, .undef, .undef, .undef, .undef, .undef, .undef, .undef, .undef, .undef, .undef, .undef, .undef, .undef, .undef, .undef, .undef, .undef, .undef, .undef, .undef, .undef, .undef, .undef, .undef, .undef, .undef, .undef, .undef, .undef, .undef, .undef, .undef, .undef, .undef, .undef, .undef, .undef, .undef, .undef, .undef, .undef, .undef, .undef, .undef, .undef, .undef, .undef, .undef, .undef, .undef, .undef, .undef, .undef, .undef, .undef, .undef, .undef, .undef, .undef, .undef], [(1000000000000, .hp h3)]⟩ = f69_e c70 (fun y0 => retF y0) (fun p4 n33 h34 => f69_w1A k c70 retF p1 n2 p4 n33 h34) p1 n2 h3 := by kernel_rfl

noncomputable def f69_N (k : Nat) (c70 : PV → Int → Int → Int → (List HE) → (Bool → (List HE) → R) → R) (ret0 : (List HE) → R) (p1 : PV) (n2 : Int) (h3 : List HE) : R :=
  f69_e c70 ret0 (fun p4 n33 h34 => f69_w1N k c70 ret0 p1 n2 p4 n33 h34) p1 n2 h3
theorem f69_eq (k : Nat) (c70 : PV → Int → Int → Int → (List HE) → (Bool → (List HE) → R) → R) (retF : (List HE) → R) (p1 : PV) (n2 : Int) (h3 : List HE) : exec (f69_E k c70) f69_code (endK (f69_E k c70) Try.f69 [1000000000000] f69_un retF) ⟨[.hval 51 p1, .int .i64 n2, .undef, .undef, .undef, .undef, .undef, .undef, .undef, .undef, .undef, .undef, .undef, .undef, .undef, .undef, .undef, .undef, .undef, .undef, .undef, .undef, .undef, .undef, .undef, .undef, .undef, .undef, .undef, .undef, .undef, .undef, .undef, .undef, .undef, .undef, .undef, .undef, .undef, .undef, .undef, .undef, .undef, .undef, .undef, .undef, .undef, .undef, .undef, .undef, .undef, .undef, .undef, .undef, .undef, .undef, .undef, .undef, .undef, .undef, .undef, .undef, .undef, .undef, .undef, .undef, .undef, .undef, .undef, .undef, .undef, .undef, .undef, .undef, .undef, .undef, .undef, .undef, .undef, .undef, .undef, .undef, .undef, .undef, .undef, .undef, .undef, .undef, .undef, .undef, .undef, .undef, .undef, .undef, .undef, .undef, .undef, .undef, .undef, .undef, .undef, .undef, .undef, .undef, .undef, .undef, .undef, .undef, .undef, .undef, .undef, .undef, .undef, .undef, .undef, .undef, .undef, .undef, .undef, .undef, .undef, .undef, .undef, .undef, .undef, .undef, .undef, .undef, .undef, .undef, .undef, .undef, .undef], [(1000000000000, .hp h3)]⟩ = f69_N k c70 (fun y0 => retF y0) p1 n2 h3 :=
  (f69_e_mem k c70 retF p1 n2 h3).trans (by rw [show (fun p4 n33 h34 => f69_w1A k c70 retF p1 n2 p4 n33 h34) = (fun p4 n33 h34 => f69_w1N k c70 (fun y0 => retF y0) p1 n2 p4 n33 h34) from funext fun p4 => funext fun n33 => funext fun h34 => f69_w1_eq k c70 retF p1 n2 p4 n33 h34]; rfl)

noncomputable def G69 : Nat → PV → Int → (List HE) → ((List HE) → R) → R
  | 0, _, _, _, _ => none
  | k + 1, p1, n2, h3, ret0 => f69_N k (G70 k) ret0 p1 n2 h3
theorem S69 : ∀ k, Snd Try.prog 69 f69_I f69_O (fun x ret => G69 k x.1 x.2.1 x.2.2 (fun y0 => ret y0))
  | 0 => snd_none
  | k + 1 => snd_step (E := f69_E k (G70 k)) rfl laidOut noNums (orc_ok (S70 k).o f70_D_ok orc0_ok) (f := 69) (fn := Try.f69) (code := f69_code) Try.func69 (by kernel_rfl) (drawsOk_of laidOut (orc_ok (S70 k).o f70_D_ok orc0_ok) mixed (by kernel_rfl)) f69_un f69_un_ok [1000000000000] (fun _ => rfl)
      (fun x ret => f69_eq k (G70 k) ret x.1 x.2.1 x.2.2)

/- catchpole/ahead.New -/
noncomputable def f39_I : PV × PV × Bool × (List HE) → List SV × Obs := fun x => ([.val 27 x.1, .val 28 x.2.1, .bool x.2.2.1], [(1000000000000, .hp x.2.2.2)])
noncomputable def f39_D : List SV → Obs → Option (PV × PV × Bool × (List HE))
  | [.val 27 p1, .val 28 p2, .bool b3], [(1000000000000, .hp h4)] => some (p1, p2, b3, h4)
  | _, _ => none
theorem f39_D_ok (args : List SV) (B : Obs) (x : PV × PV × Bool × (List HE)) (h : f39_D args B = some x) : f39_I x = (args, B) := by
  unfold f39_D at h
  split at h
  · injection h with h; subst h; rfl
  · cases h
noncomputable def f39_O : PV × Int × (List HE) → Out := (fun y => ([.hval 51 y.1, .int .i64 y.2.1], [(1000000000000, .hp y.2.2)]))
noncomputable def f39_un : Out → Option (PV × Int × (List HE))
  | ([.hval 51 y0, .int .i64 y1], [(1000000000000, .hp y2)]) => some (y0, y1, y2)
  | _ => none
theorem f39_un_ok (o : Out) (y : PV × Int × (List HE)) (h : f39_un o = some y) : o = f39_O y := by
  unfold f39_un at h
  split at h
  · injection h with h; subst h; rfl
  · cases h
noncomputable def f39_msk : Nat → Option (List Nat) := fun key => bif key == 24 then some [2, 9, 54, 55] else bif key == 39 then some [9, 84, 85] else none
noncomputable def f39_C (c66 : PV → PV → (List HE) → (PV → (List HE) → R) → R) (c68 : PV → PV → (Int → R) → R) (c69 : PV → Int → (List HE) → ((List HE) → R) → R) : Oracle := orc 66 f66_D f66_O (fun x ret => c66 x.1 x.2.1 x.2.2 (fun y0 y1 => ret (y0, y1))) <| orc 68 f68_D f68_O (fun x ret => c68 x.1 x.2 (fun y0 => ret y0)) <| orc 69 f69_D f69_O (fun x ret => c69 x.1 x.2.1 x.2.2 (fun y0 => ret y0)) <| orc0
noncomputable def f39_E (k : Nat) (c66 : PV → PV → (List HE) → (PV → (List HE) → R) → R) (c68 : PV → PV → (Int → R) → R) (c69 : PV → Int → (List HE) → ((List HE) → R) → R) : Env := { P := Try.prog, nilOwn := fun d => false, fldOwn := fun d i => false, ownPar := ownPars, ownRet := false, hpD := fun d => d == 23 || d == 24 || d == 34 || d == 46, hpF := hpFs, hpNew := false, mask := f39_msk, fuel := k, C := f39_C c66 c68 c69 }
noncomputable def f39_code : Code := Try.f39.body.getD .skip
noncomputable def f39_cw1 : Code := subC f39_code [1, 1, 1, 1, 1, 0, 1, 0, 0]
noncomputable def f39_hw1_0 (b3 : Bool) (h7 : List HE) (n13 : Int) (n22 : Int) (h23 : List HE) : St := ⟨[.dead, .dead, .bool b3, .dead, .dead, .dead, .dead, .dead, .dead, .hptr 82 (List.length h7) [], .dead, .dead, .dead, .dead, .dead, .dead, .dead, .dead, .dead, .dead, .dead, .dead, .dead, .dead, .dead, .dead, .dead, .dead, .dead, .dead, .dead, .dead, .dead, .dead, .dead, .dead, .dead, .dead, .dead, .dead, .dead, .dead, .dead, .dead, .dead, .dead, .dead, .dead, .dead, .dead, .dead, .dead, .dead, .dead, .int .i64 n13, .int .i64 n22, .dead, .dead, .dead, .dead, .dead, .dead, .dead, .dead, .dead, .dead, .dead, .dead, .dead, .dead, .dead, .dead, .dead, .dead, .dead, .dead, .dead, .dead, .dead, .dead, .dead, .dead, .dead, .dead, .dead, .dead, .dead, .dead, .dead, .dead, .dead, .dead, .dead], [(1000000000000, .hp h23)]⟩
noncomputable def f39_w1A (k : Nat) (c66 : PV → PV → (List HE) → (PV → (List HE) → R) → R) (c68 : PV → PV → (Int → R) → R) (c69 : PV → Int → (List HE) → ((List HE) → R) → R) (retF : PV × Int × (List HE) → R) (b3 : Bool) (h7 : List HE) (n13 : Int) (n22 : Int) (h23 : List HE) : R := loopM (f39_E k c66 c68 c69) f39_cw1 (kont (f39_E k c66 c68 c69) f39_code [1, 1, 1, 1, 1, 0, 1, 0] (endK (f39_E k c66 c68 c69) Try.f39 [1000000000000] f39_un retF)) k (f39_hw1_0 b3 h7 n13 n22 h23)
noncomputable def f39_cw3 : Code := subC f39_code [1, 1, 1, 1, 1, 1, 0, 1, 0, 0]
noncomputable def f39_hw3_0 (h7 : List HE) (h23 : List HE) (n28 : Int) (h29 : List HE) : St := ⟨[.dead, .dead, .dead, .dead, .dead, .dead, .dead, .dead, .dead, .hptr 82 (List.length h7) [], .dead, .dead, .dead, .dead, .dead, .dead, .dead, .dead, .dead, .dead, .dead, .dead, .dead, .dead, .dead, .dead, .dead, .dead, .dead, .dead, .dead, .dead, .dead, .dead, .dead, .dead, .dead, .dead, .dead, .dead, .dead, .dead, .dead, .dead, .dead, .dead, .dead, .dead, .dead, .dead, .dead, .dead, .dead, .dead, .dead, .dead, .dead, .dead, .dead, .dead, .dead, .dead, .dead, .dead, .dead, .dead, .dead, .dead, .dead, .dead, .dead, .dead, .dead, .dead, .dead, .dead, .dead, .dead, .dead, .dead, .dead, .dead, .dead, .dead, .int .i64 ((PV.rN (PV.fld (hvarOf h23 (PV.rI (PV.fld (hvarOf h23 (List.length h7)) 0))) 0)) : Int), .int .i64 n28, .dead, .dead, .dead, .dead, .dead, .dead, .dead], [(1000000000000, .hp h29)]⟩
noncomputable def f39_w3A (k : Nat) (c66 : PV → PV → (List HE) → (PV → (List HE) → R) → R) (c68 : PV → PV → (Int → R) → R) (c69 : PV → Int → (List HE) → ((List HE) → R) → R) (retF : PV × Int × (List HE) → R) (h7 : List HE) (h23 : List HE) (n28 : Int) (h29 : List HE) : R := loopM (f39_E k c66 c68 c69) f39_cw3 (kont (f39_E k c66 c68 c69) f39_code [1, 1, 1, 1, 1, 1, 0, 1, 0] (endK (f39_E k c66 c68 c69) Try.f39 [1000000000000] f39_un retF)) k (f39_hw3_0 h7 h23 n28 h29)
noncomputable def f39_w3b0 (c66 : PV → PV → (List HE) → (PV → (List HE) → R) → R) (c68 : PV → PV → (Int → R) → R) (c69 : PV → Int → (List HE) → ((List HE) → R) → R) (ret0 : PV → Int → (List HE) → R) (next_w3_0 : Int → (List HE) → R) (h7 : List HE) (h23 : List HE) (n28 : Int) (h29 : List HE) : R :=
  let b30 : Bool := (decide (n28 < ((PV.rN (PV.fld (hvarOf h23 (PV.rI (PV.fld (hvarOf h23 (List.length h7)) 0))) 0)) : Int)))
  bif b30 then
    c69 (PV.rp (List.length h7)) n28 h29 fun h31 =>
    next_w3_0 (IntKind.wrap .i64 (n28 + (1 : Int))) h31
  else ret0 (PV.rp (List.length h7)) 0 h29

theorem f39_w3b0_mem (k : Nat) (c66 : PV → PV → (List HE) → (PV → (List HE) → R) → R) (c68 : PV → PV → (Int → R) → R) (c69 : PV → Int → (List HE) → ((List HE) → R) → R) (retF : PV × Int × (List HE) → R) (NX_w3 : St → R) (h7 : List HE) (h23 : List HE) (n28 : Int) (h29 : List HE) : exec (f39_E k c66 c68 c69) f39_cw3 (purgeK (f39_E k c66 c68 c69) f39_cw3 (loopK NX_w3 (kont (f39_E k c66 c68 c69) f39_code [1, 1, 1, 1, 1, 1, 0, 1, 0] (endK (f39_E k c66 c68 c69) Try.f39 [1000000000000] f39_un retF)))) (f39_hw3_0 h7 h23 n28 h29) = f39_w3b0 c66 c68 c69 (fun y0 y1 y2 => retF (y0, y1, y2)) (fun n28 h29 => NX_w3 (f39_hw3_0 h7 h23 n28 h29)) h7 h23 n28 h29 := by kernel_rfl

noncomputable def f39_w3b0N (k : Nat) (c66 : PV → PV → (List HE) → (PV → (List HE) → R) → R) (c68 : PV → PV → (Int → R) → R) (c69 : PV → Int → (List HE) → ((List HE) → R) → R) (ret0 : PV → Int → (List HE) → R) (next_w3_0 : Int → (List HE) → R) (h7 : List HE) (h23 : List HE) (n28 : Int) (h29 : List HE) : R :=
  f39_w3b0 c66 c68 c69 ret0 next_w3_0 h7 h23 n28 h29
theorem f39_w3b0_eq (k : Nat) (c66 : PV → PV → (List HE) → (PV → (List HE) → R) → R) (c68 : PV → PV → (Int → R) → R) (c69 : PV → Int → (List HE) → ((List HE) → R) → R) (retF : PV × Int × (List HE) → R) (NX_w3 : St → R) (h7 : List HE) (h23 : List HE) (n28 : Int) (h29 : List HE) : exec (f39_E k c66 c68 c69) f39_cw3 (purgeK (f39_E k c66 c68 c69) f39_cw3 (loopK NX_w3 (kont (f39_E k c66 c68 c69) f39_code [1, 1, 1, 1, 1, 1, 0, 1, 0] (endK (f39_E k c66 c68 c69) Try.f39 [1000000000000] f39_un retF)))) (f39_hw3_0 h7 h23 n28 h29) = f39_w3b0N k c66 c68 c69 (fun y0 y1 y2 => retF (y0, y1, y2)) (fun n28 h29 => NX_w3 (f39_hw3_0 h7 h23 n28 h29)) h7 h23 n28 h29 :=
  (f39_w3b0_mem k c66 c68 c69 retF NX_w3 h7 h23 n28 h29)

noncomputable def f39_w3B (k : Nat) (c66 : PV → PV → (List HE) → (PV → (List HE) → R) → R) (c68 : PV → PV → (Int → R) → R) (c69 : PV → Int → (List HE) → ((List HE) → R) → R) (ret0 : PV → Int → (List HE) → R) (h7 : List HE) (h23 : List HE) (nx : Int × (List HE) → R) : Int × (List HE) → R := (fun s => f39_w3b0N k c66 c68 c69 ret0 (fun n28 h29 => nx (n28, h29)) h7 h23 s.1 s.2)
noncomputable def f39_w3N (k : Nat) (c66 : PV → PV → (List HE) → (PV → (List HE) → R) → R) (c68 : PV → PV → (Int → R) → R) (c69 : PV → Int → (List HE) → ((List HE) → R) → R) (ret0 : PV → Int → (List HE) → R) (h7 : List HE) (h23 : List HE) (n28 : Int) (h29 : List HE) : R := loopR (f39_w3B k c66 c68 c69 ret0 h7 h23) k (n28, h29)
theorem f39_w3_eq (k : Nat) (c66 : PV → PV → (List HE) → (PV → (List HE) → R) → R) (c68 : PV → PV → (Int → R) → R) (c69 : PV → Int → (List HE) → ((List HE) → R) → R) (retF : PV × Int × (List HE) → R) (h7 : List HE) (h23 : List HE) (n28 : Int) (h29 : List HE) : f39_w3A k c66 c68 c69 retF h7 h23 n28 h29 = f39_w3N k c66 c68 c69 (fun y0 y1 y2 => retF (y0, y1, y2)) h7 h23 n28 h29 :=
  Eq.mp (by kernel_rfl) (loop_sim (E := (f39_E k c66 c68 c69)) (c := f39_cw3) (K := (kont (f39_E k c66 c68 c69) f39_code [1, 1, 1, 1, 1, 1, 0, 1, 0] (endK (f39_E k c66 c68 c69) Try.f39 [1000000000000] f39_un retF))) (S := Int × (List HE)) (fun s => f39_hw3_0 h7 h23 s.1 s.2) (f39_w3B k c66 c68 c69 (fun y0 y1 y2 => retF (y0, y1, y2)) h7 h23) (fun NX s => by
    exact Eq.mp (by kernel_rfl) (f39_w3b0_eq k c66 c68 c69 retF NX h7 h23 s.1 s.2)) k (n28, h29))

noncomputable def f39_w1b0 (c66 : PV → PV → (List HE) → (PV → (List HE) → R) → R) (c68 : PV → PV → (Int → R) → R) (c69 : PV → Int → (List HE) → ((List HE) → R) → R) (ret0 : PV → Int → (List HE) → R) (w3 : Int → (List HE) → R) (next_w1_0 : Int → (List HE) → R) (b3 : Bool) (h7 : List HE) (n13 : Int) (n22 : Int) (h23 : List HE) : R :=
  bif (decide (n22 < n13)) then
    bif (true && true && (hokV h23 82 (List.length h7))) then
      bif (true && decide ((0 : Int) ≤ (0 : Int)) && decide ((0 : Int) < ((PV.rN (PV.fld (hvarOf h23 (List.length h7)) 2)) : Int))) then
        bif (true && true && (hokR h23 87 (PV.rI (PV.fld (hvarOf h23 (List.length h7)) 2)) (0 : Int))) then
          bif ((!b3) == false) then
            bif (true && true && (hokV h23 82 (List.length h7))) then
              bif (true && decide ((0 : Int) ≤ n22) && decide (n22 < ((PV.rN (List.getD (hrowOf h23 (PV.rI (PV.fld (hvarOf h23 (List.length h7)) 2))) ((0 : Int)).toNat PV.nil)) : Int))) then
                bif (true && (hokR h23 4 (PV.rI (List.getD (hrowOf h23 (PV.rI (PV.fld (hvarOf h23 (List.length h7)) 2))) ((0 : Int)).toNat PV.nil)) n22)) then
                  let h24 : List HE := (List.set h23 (PV.rI (List.getD (hrowOf h23 (PV.rI (PV.fld (hvarOf h23 (List.length h7)) 2))) ((0 : Int)).toNat PV.nil)) (HE.row 4 (List.set (hrowOf h23 (PV.rI (List.getD (hrowOf h23 (PV.rI (PV.fld (hvarOf h23 (List.length h7)) 2))) ((0 : Int)).toNat PV.nil))) (n22).toNat (PV.bool (decide (n22 = (PV.num (PV.fld (hvarOf h23 (List.length h7)) 1))))))))
                  next_w1_0 (IntKind.wrap .i64 (n22 + (1 : Int))) h24
                else none
              else none
            else none
          else bif (true && decide ((0 : Int) ≤ n22) && decide (n22 < ((PV.rN (List.getD (hrowOf h23 (PV.rI (PV.fld (hvarOf h23 (List.length h7)) 2))) ((0 : Int)).toNat PV.nil)) : Int))) then
            bif (true && (hokR h23 4 (PV.rI (List.getD (hrowOf h23 (PV.rI (PV.fld (hvarOf h23 (List.length h7)) 2))) ((0 : Int)).toNat PV.nil)) n22)) then
              let h25 : List HE := (List.set h23 (PV.rI (List.getD (hrowOf h23 (PV.rI (PV.fld (hvarOf h23 (List.length h7)) 2))) ((0 : Int)).toNat PV.nil)) (HE.row 4 (List.set (hrowOf h23 (PV.rI (List.getD (hrowOf h23 (PV.rI (PV.fld (hvarOf h23 (List.length h7)) 2))) ((0 : Int)).toNat PV.nil))) (n22).toNat (PV.bool true))))
              next_w1_0 (IntKind.wrap .i64 (n22 + (1 : Int))) h25
            else none
          else none
        else none
      else none
    else none
  else bif (true && true && (hokV h23 82 (List.length h7))) then
    bif (PV.isRp (PV.fld (hvarOf h23 (List.length h7)) 0)) then
      bif (true && true && (hokV h23 86 (PV.rI (PV.fld (hvarOf h23 (List.length h7)) 0)))) then
        w3 0 h23
      else none
    else none
  else none

theorem f39_w1b0_mem (k : Nat) (c66 : PV → PV → (List HE) → (PV → (List HE) → R) → R) (c68 : PV → PV → (Int → R) → R) (c69 : PV → Int → (List HE) → ((List HE) → R) → R) (retF : PV × Int × (List HE) → R) (NX_w1 : St → R) (b3 : Bool) (h7 : List HE) (n13 : Int) (n22 : Int) (h23 : List HE) : exec (f39_E k c66 c68 c69) f39_cw1 (purgeK (f39_E k c66 c68 c69) f39_cw1 (loopK NX_w1 (kont (f39_E k c66 c68 c69) f39_code [1, 1, 1, 1, 1, 0, 1, 0] (endK (f39_E k c66 c68 c69) Try.f39 [1000000000000] f39_un retF)))) (f39_hw1_0 b3 h7 n13 n22 h23) = f39_w1b0 c66 c68 c69 (fun y0 y1 y2 => retF (y0, y1, y2)) (fun n28 h29 => f39_w3A k c66 c68 c69 retF h7 h23 n28 h29) (fun n22 h23 => NX_w1 (f39_hw1_0 b3 h7 n13 n22 h23)) b3 h7 n13 n22 h23 := by kernel_rfl

noncomputable def f39_w1b0N (k : Nat) (c66 : PV → PV → (List HE) → (PV → (List HE) → R) → R) (c68 : PV → PV → (Int → R) → R) (c69 : PV → Int → (List HE) → ((List HE) → R) → R) (ret0 : PV → Int → (List HE) → R) (next_w1_0 : Int → (List HE) → R) (b3 : Bool) (h7 : List HE) (n13 : Int) (n22 : Int) (h23 : List HE) : R :=
  f39_w1b0 c66 c68 c69 ret0 (fun n28 h29 => f39_w3N k c66 c68 c69 ret0 h7 h23 n28 h29) next_w1_0 b3 h7 n13 n22 h23
theorem f39_w1b0_eq (k : Nat) (c66 : PV → PV → (List HE) → (PV → (List HE) → R) → R) (c68 : PV → PV → (Int → R) → R) (c69 : PV → Int → (List HE) → ((List HE) → R) → R) (retF : PV × Int × (List HE) → R) (NX_w1 : St → R) (b3 : Bool) (h7 : List HE) (n13 : Int) (n22 : Int) (h23 : List HE) : exec (f39_E k c66 c68 c69) f39_cw1 (purgeK (f39_E k c66 c68 c69) f39_cw1 (loopK NX_w1 (kont (f39_E k c66 c68 c69) f39_code [1, 1, 1, 1, 1, 0, 1, 0] (endK (f39_E k c66 c68 c69) Try.f39 [1000000000000] f39_un retF)))) (f39_hw1_0 b3 h7 n13 n22 h23) = f39_w1b0N k c66 c68 c69 (fun y0 y1 y2 => retF (y0, y1, y2)) (fun n22 h23 => NX_w1 (f39_hw1_0 b3 h7 n13 n22 h23)) b3 h7 n13 n22 h23 :=
  (f39_w1b0_mem k c66 c68 c69 retF NX_w1 b3 h7 n13 n22 h23).trans (by rw [show (fun n28 h29 => f39_w3A k c66 c68 c69 retF h7 h23 n28 h29) = (fun n28 h29 => f39_w3N k c66 c68 c69 (fun y0 y1 y2 => retF (y0, y1, y2)) h7 h23 n28 h29) from funext fun n28 => funext fun h29 => f39_w3_eq k c66 c68 c69 retF h7 h23 n28 h29]; rfl)

noncomputable def f39_w1B (k : Nat) (c66 : PV → PV → (List HE) → (PV → (List HE) → R) → R) (c68 : PV → PV → (Int → R) → R) (c69 : PV → Int → (List HE) → ((List HE) → R) → R) (ret0 : PV → Int → (List HE) → R) (b3 : Bool) (h7 : List HE) (n13 : Int) (nx : Int × (List HE) → R) : Int × (List HE) → R := (fun s => f39_w1b0N k c66 c68 c69 ret0 (fun n22 h23 => nx (n22, h23)) b3 h7 n13 s.1 s.2)
noncomputable def f39_w1N (k : Nat) (c66 : PV → PV → (List HE) → (PV → (List HE) → R) → R) (c68 : PV → PV → (Int → R) → R) (c69 : PV → Int → (List HE) → ((List HE) → R) → R) (ret0 : PV → Int → (List HE) → R) (b3 : Bool) (h7 : List HE) (n13 : Int) (n22 : Int) (h23 : List HE) : R := loopR (f39_w1B k c66 c68 c69 ret0 b3 h7 n13) k (n22, h23)
theorem f39_w1_eq (k : Nat) (c66 : PV → PV → (List HE) → (PV → (List HE) → R) → R) (c68 : PV → PV → (Int → R) → R) (c69 : PV → Int → (List HE) → ((List HE) → R) → R) (retF : PV × Int × (List HE) → R) (b3 : Bool) (h7 : List HE) (n13 : Int) (n22 : Int) (h23 : List HE) : f39_w1A k c66 c68 c69 retF b3 h7 n13 n22 h23 = f39_w1N k c66 c68 c69 (fun y0 y1 y2 => retF (y0, y1, y2)) b3 h7 n13 n22 h23 :=
  Eq.mp (by kernel_rfl) (loop_sim (E := (f39_E k c66 c68 c69)) (c := f39_cw1) (K := (kont (f39_E k c66 c68 c69) f39_code [1, 1, 1, 1, 1, 0, 1, 0] (endK (f39_E k c66 c68 c69) Try.f39 [1000000000000] f39_un retF))) (S := Int × (List HE)) (fun s => f39_hw1_0 b3 h7 n13 s.1 s.2) (f39_w1B k c66 c68 c69 (fun y0 y1 y2 => retF (y0, y1, y2)) b3 h7 n13) (fun NX s => by
    exact Eq.mp (by kernel_rfl) (f39_w1b0_eq k c66 c68 c69 retF NX b3 h7 n13 s.1 s.2)) k (n22, h23))

noncomputable def f39_e (c66 : PV → PV → (List HE) → (PV → (List HE) → R) → R) (c68 : PV → PV → (Int → R) → R) (c69 : PV → Int → (List HE) → ((List HE) → R) → R) (ret0 : PV → Int → (List HE) → R) (w1 : (List HE) → Int → Int → (List HE) → R) (p1 : PV) (p2 : PV) (b3 : Bool) (h4 : List HE) : R :=
  c68 p1 p2 fun n5 =>
  bif (!(decide (n5 = (0 : Int)))) then
    ret0 PV.nil n5 h4
  else c66 p1 p2 h4 fun p6 h7 =>
  let h8 : List HE := (h7 ++ [HE.var 82 (PV.agg [p6, (PV.int (List.length (PV.els p2) : Int)), (PV.list [])])])
  bif (true && true && (hokV h8 82 (List.length h7))) then
    bif (PV.isRp (PV.fld (hvarOf h8 (List.length h7)) 0)) then
      bif (true && true && (hokV h8 86 (PV.rI (PV.fld (hvarOf h8 (List.length h7)) 0)))) then
        bif (true && (true && decide ((0 : Int) ≤ ((PV.rN (PV.fld (hvarOf h8 (PV.rI (PV.fld (hvarOf h8 (List.length h7)) 0))) 0)) : Int)) && decide (((PV.rN (PV.fld (hvarOf h8 (PV.rI (PV.fld (hvarOf h8 (List.length h7)) 0))) 0)) : Int) = ((PV.rN (PV.fld (hvarOf h8 (PV.rI (PV.fld (hvarOf h8 (List.length h7)) 0))) 0)) : Int)) && roomy (((PV.rN (PV.fld (hvarOf h8 (PV.rI (PV.fld (hvarOf h8 (List.length h7)) 0))) 0)) : Int)).toNat 24)) then
          let h9 : List HE := (h8 ++ [HE.row 87 (List.replicate (((PV.rN (PV.fld (hvarOf h8 (PV.rI (PV.fld (hvarOf h8 (List.length h7)) 0))) 0)) : Int)).toNat (PV.list []))])
          bif (true && (hokV h9 82 (List.length h7))) then
            let h10 : List HE := (List.set h9 (List.length h7) (HE.var 82 (PV.agg (List.set (PV.flds (hvarOf h9 (List.length h7))) 2 (PV.rs (List.length h8) (((PV.rN (PV.fld (hvarOf h8 (PV.rI (PV.fld (hvarOf h8 (List.length h7)) 0))) 0)) : Int)).toNat)))))
            bif (true && true && (hokV h10 82 (List.length h7))) then
              bif (true && true && (hokV h10 82 (List.length h7))) then
                bif (true && (true && decide ((0 : Int) ≤ (IntKind.wrap .i64 ((PV.num (PV.fld (hvarOf h10 (List.length h7)) 1)) + (1 : Int)))) && decide ((IntKind.wrap .i64 ((PV.num (PV.fld (hvarOf h10 (List.length h7)) 1)) + (1 : Int))) = (IntKind.wrap .i64 ((PV.num (PV.fld (hvarOf h10 (List.length h7)) 1)) + (1 : Int)))) && roomy ((IntKind.wrap .i64 ((PV.num (PV.fld (hvarOf h10 (List.length h7)) 1)) + (1 : Int)))).toNat 1)) then
                  bif (true && decide ((0 : Int) ≤ (0 : Int)) && decide ((0 : Int) < ((PV.rN (PV.fld (hvarOf h10 (List.length h7)) 2)) : Int))) then
                    let h11 : List HE := (h10 ++ [HE.row 4 (List.replicate ((IntKind.wrap .i64 ((PV.num (PV.fld (hvarOf h10 (List.length h7)) 1)) + (1 : Int)))).toNat (PV.bool false))])
                    bif (true && (hokR h11 87 (PV.rI (PV.fld (hvarOf h10 (List.length h7)) 2)) (0 : Int))) then
                      let h12 : List HE := (List.set h11 (PV.rI (PV.fld (hvarOf h10 (List.length h7)) 2)) (HE.row 87 (List.set (hrowOf h11 (PV.rI (PV.fld (hvarOf h10 (List.length h7)) 2))) ((0 : Int)).toNat (PV.rs (List.length h10) ((IntKind.wrap .i64 ((PV.num (PV.fld (hvarOf h10 (List.length h7)) 1)) + (1 : Int)))).toNat))))
                      bif (true && true && (hokV h12 82 (List.length h7))) then
                        bif (true && decide ((0 : Int) ≤ (0 : Int)) && decide ((0 : Int) < ((PV.rN (PV.fld (hvarOf h12 (List.length h7)) 2)) : Int))) then
                          bif (true && true && (hokR h12 87 (PV.rI (PV.fld (hvarOf h12 (List.length h7)) 2)) (0 : Int))) then
                            let n13 : Int := ((PV.rN (List.getD (hrowOf h12 (PV.rI (PV.fld (hvarOf h12 (List.length h7)) 2))) ((0 : Int)).toNat PV.nil)) : Int)
                            w1 h7 n13 0 h12
                          else none
                        else none
                      else none
                    else none
                  else none
                else none
              else none
            else none
          else none
        else none
      else none
    else none
  else none

theorem f39_e_mem (k : Nat) (c66 : PV → PV → (List HE) → (PV → (List HE) → R) → R) (c68 : PV → PV → (Int → R) → R) (c69 : PV → Int → (List HE) → ((List HE) → R) → R) (retF : PV × Int × (List HE) → R) (p1 : PV) (p2 : PV) (b3 : Bool) (h4 : List HE) : exec (f39_E k c66 c68 c69) f39_code (endK (f39_E k c66 c68 c69) Try.f39 [1000000000000] f39_un retF) ⟨[.val 27 p1, .val 28 p2, .bool b3, .undef, .undef, .undef, .undef, .undef, .undef, .undef, .undef, .undef, .undef, .undef, .undef, .undef, .undef, .undef, .undef, .undef, .undef, .undef, .undef, .undef, .undef, .undef, .undef, .undef, .undef, .undef, .undef, .undef, .undef, .undef, .undef, .undef, .undef, .undef, .undef, .undef, .undef, .undef, .undef, .undef, .undef, .undef, .undef, .undef, .undef, .undef, .undef, .undef, .undef, .undef, .undef, .undef, .undef, .undef, .undef, .undef, .undef, .undef, .undef, .undef, .undef, .undef, .undef, .undef, .undef, .undef, .undef, .undef, .undef, .undef, .undef, .undef, .undef, .undef, .undef, .undef, .undef, .undef, .undef, .undef, .undef, .undef, .undef, .undef, .undef, .undef, .undef, .undef, .undef], [(1000000000000, .hp h4)]⟩ = f39_e c66 c68 c69 (fun y0 y1 y2 => retF (y0, y1, y2)) (fun h7 n13 n22 h23 => f39_w1A k c66 c68 c69 retF b3 h7 n13 n22 h23) p1 p2 b3 h4 := by kernel_rfl

noncomputable def f39_N (k : Nat) (c66 : PV → PV → (List HE) → (PV → (List HE) → R) → R) (c68 : PV → PV → (Int → R) → R) (c69 : PV → Int → (List HE) → ((List HE) → R) → R) (ret0 : PV → Int → (List HE) → R) (p1 : PV) (p2 : PV) (b3 : Bool) (h4 : List HE) : R :=
  f39_e c66 c68 c69 ret0 (fun h7 n13 n22 h23 => f39_w1N k c66 c68 c69 ret0 b3 h7 n13 n22 h23) p1 p2 b3 h4
theorem f39_eq (k : Nat) (c66 : PV → PV → (List HE) → (PV → (List HE) → R) → R) (c68 : PV → PV → (Int → R) → R) (c69 : PV → Int → (List HE) → ((List HE) → R) → R) (retF : PV × Int × (List HE) → R) (p1 : PV) (p2 : PV) (b3 : Bool) (h4 : List HE) : exec (f39_E k c66 c68 c69) f39_code (endK (f39_E k c66 c68 c69) Try.f39 [1000000000000] f39_un retF) ⟨[.val 27 p1, .val 28 p2, .bool b3, .undef, .undef, .undef, .undef, .undef, .undef, .undef, .undef, .undef, .undef, .undef, .undef, .undef, .undef, .undef, .undef, .undef, .undef, .undef, .undef, .undef, .undef, .undef, .undef, .undef, .undef, .undef, .undef, .undef, .undef, .undef, .undef, .undef, .undef, .undef, .undef, .undef, .undef, .undef, .undef, .undef, .undef, .undef, .undef, .undef, .undef, .undef, .undef, .undef, .undef, .undef, .undef, .undef, .undef, .undef, .undef, .undef, .undef, .undef, .undef, .undef, .undef, .undef, .undef, .undef, .undef, .undef, .undef, .undef, .undef, .undef, .undef, .undef, .undef, .undef, .undef, .undef, .undef, .undef, .undef, .undef, .undef, .undef, .undef, .undef, .undef, .undef, .undef, .undef, .undef], [(1000000000000, .hp h4)]⟩ = f39_N k c66 c68 c69 (fun y0 y1 y2 => retF (y0, y1, y2)) p1 p2 b3 h4 :=
  (f39_e_mem k c66 c68 c69 retF p1 p2 b3 h4).trans (by rw [show (fun h7 n13 n22 h23 => f39_w1A k c66 c68 c69 retF b3 h7 n13 n22 h23) = (fun h7 n13 n22 h23 => f39_w1N k c66 c68 c69 (fun y0 y1 y2 => retF (y0, y1, y2)) b3 h7 n13 n22 h23) from funext fun h7 => funext fun n13 => funext fun n22 => funext fun h23 => f39_w1_eq k c66 c68 c69 retF b3 h7 n13 n22 h23]; rfl)

noncomputable def G39 : Nat → PV → PV → Bool → (List HE) → (PV → Int → (List HE) → R) → R
  | 0, _, _, _, _, _ => none
  | k + 1, p1, p2, b3, h4, ret0 => f39_N k (G66 k) (G68 k) (G69 k) ret0 p1 p2 b3 h4
theorem S39 : ∀ k, Snd Try.prog 39 f39_I f39_O (fun x ret => G39 k x.1 x.2.1 x.2.2.1 x.2.2.2 (fun y0 y1 y2 => ret (y0, y1, y2)))
  | 0 => snd_none
  | k + 1 => snd_step (E := f39_E k (G66 k) (G68 k) (G69 k)) rfl laidOut noNums (orc_ok (S66 k).o f66_D_ok (orc_ok (S68 k).o f68_D_ok (orc_ok (S69 k).o f69_D_ok orc0_ok))) (f := 39) (fn := Try.f39) (code := f39_code) Try.func39 (by kernel_rfl) (drawsOk_of laidOut (orc_ok (S66 k).o f66_D_ok (orc_ok (S68 k).o f68_D_ok (orc_ok (S69 k).o f69_D_ok orc0_ok))) mixed (by kernel_rfl)) f39_un f39_un_ok [1000000000000] (fun _ => rfl)
      (fun x ret => f39_eq k (G66 k) (G68 k) (G69 k) ret x.1 x.2.1 x.2.2.1 x.2.2.2)

/- (*catchpole/lang.Table).Part -/
noncomputable def f98_I : PV × PV × (List HE) → List SV × Obs := fun x => ([.hval 76 x.1, .val 44 x.2.1], [(1000000000000, .hp x.2.2)])
noncomputable def f98_D : List SV → Obs → Option (PV × PV × (List HE))
  | [.hval 76 p1, .val 44 p2], [(1000000000000, .hp h3)] => some (p1, p2, h3)
  | _, _ => none
theorem f98_D_ok (args : List SV) (B : Obs) (x : PV × PV × (List HE)) (h : f98_D args B = some x) : f98_I x = (args, B) := by
  unfold f98_D at h
  split at h
  · injection h with h; subst h; rfl
  · cases h
noncomputable def f98_O : Int × Bool × (List HE) → Out := (fun y => ([.int .i64 y.1, .bool y.2.1], [(1000000000000, .hp y.2.2)]))
noncomputable def f98_un : Out → Option (Int × Bool × (List HE))
  | ([.int .i64 y0, .bool y1], [(1000000000000, .hp y2)]) => some (y0, y1, y2)
  | _ => none
theorem f98_un_ok (o : Out) (y : Int × Bool × (List HE)) (h : f98_un o = some y) : o = f98_O y := by
  unfold f98_un at h
  split at h
  · injection h with h; subst h; rfl
  · cases h
noncomputable def f98_msk : Nat → Option (List Nat) := fun key => bif key == 9 then some [0, 6, 9, 10, 11] else none
noncomputable def f98_C : Oracle := orc0
noncomputable def f98_E (k : Nat) : Env := { P := Try.prog, nilOwn := fun d => false, fldOwn := fun d i => false, ownPar := ownPars, ownRet := false, hpD := fun d => false, hpF := hpFs, hpNew := false, mask := f98_msk, fuel := k, C := f98_C }
noncomputable def f98_code : Code := Try.f98.body.getD .skip
noncomputable def f98_cw1 : Code := subC f98_code [1, 1, 0, 1, 0, 0]
noncomputable def f98_hw1_0 (p1 : PV) (p2 : PV) (h3 : List HE) (n7 : Int) (n8 : Int) : St := ⟨[.hval 76 p1, .dead, .dead, .dead, .dead, .dead, .int .i64 n7, .dead, .dead, .val 44 p2, .int .i64 (List.length (PV.els p2) : Int), .int .i64 n8, .dead, .dead, .dead, .dead, .dead, .dead, .dead, .dead, .dead, .dead, .dead, .dead, .dead, .dead, .dead, .dead, .dead, .dead, .dead, .dead, .dead, .dead, .dead, .dead, .dead, .dead, .dead, .dead, .dead, .dead, .dead], [(1000000000000, .hp h3)]⟩
noncomputable def f98_w1A (k : Nat) (retF : Int × Bool × (List HE) → R) (p1 : PV) (p2 : PV) (h3 : List HE) (n7 : Int) (n8 : Int) : R := loopM (f98_E k) f98_cw1 (kont (f98_E k) f98_code [1, 1, 0, 1, 0] (endK (f98_E k) Try.f98 [1000000000000] f98_un retF)) k (f98_hw1_0 p1 p2 h3 n7 n8)
noncomputable def f98_w1b0 (ret0 : Int → Bool → (List HE) → R) (next_w1_0 : Int → Int → R) (p1 : PV) (p2 : PV) (h3 : List HE) (n7 : Int) (n8 : Int) : R :=
  bif (decide (n8 < (List.length (PV.els p2) : Int))) then
    bif (true && decide ((0 : Int) ≤ n8) && decide (n8 < (List.length (PV.els p2) : Int))) then
      bif ((decide ((PV.num (List.getD (PV.els p2) (n8).toNat PV.nil)) < (0 : Int))) == false) then
        bif (PV.isRp p1) then
          bif (true && true && (hokV h3 86 (PV.rI p1))) then
            bif (true && decide ((0 : Int) ≤ n7) && decide (n7 < ((PV.rN (PV.fld (hvarOf h3 (PV.rI p1)) 0)) : Int))) then
              bif (true && true && (hokR h3 118 (PV.rI (PV.fld (hvarOf h3 (PV.rI p1)) 0)) n7)) then
                let n9 : Int := ((PV.rN (PV.fld (List.getD (hrowOf h3 (PV.rI (PV.fld (hvarOf h3 (PV.rI p1)) 0))) (n7).toNat PV.nil) 1)) : Int)
                bif (decide (n9 ≤ (PV.num (List.getD (PV.els p2) (n8).toNat PV.nil)))) then
                  ret0 0 false h3
                else bif (PV.isRp p1) then
                  bif (true && true && (hokV h3 86 (PV.rI p1))) then
                    bif (true && decide ((0 : Int) ≤ n7) && decide (n7 < ((PV.rN (PV.fld (hvarOf h3 (PV.rI p1)) 0)) : Int))) then
                      bif (true && true && (hokR h3 118 (PV.rI (PV.fld (hvarOf h3 (PV.rI p1)) 0)) n7)) then
                        bif (true && decide ((0 : Int) ≤ (PV.num (List.getD (PV.els p2) (n8).toNat PV.nil))) && decide ((PV.num (List.getD (PV.els p2) (n8).toNat PV.nil)) < ((PV.rN (PV.fld (List.getD (hrowOf h3 (PV.rI (PV.fld (hvarOf h3 (PV.rI p1)) 0))) (n7).toNat PV.nil) 1)) : Int))) then
                          bif (true && true && (hokR h3 3 (PV.rI (PV.fld (List.getD (hrowOf h3 (PV.rI (PV.fld (hvarOf h3 (PV.rI p1)) 0))) (n7).toNat PV.nil) 1)) (PV.num (List.getD (PV.els p2) (n8).toNat PV.nil)))) then
                            let n10 : Int := (PV.num (List.getD (hrowOf h3 (PV.rI (PV.fld (List.getD (hrowOf h3 (PV.rI (PV.fld (hvarOf h3 (PV.rI p1)) 0))) (n7).toNat PV.nil) 1))) ((PV.num (List.getD (PV.els p2) (n8).toNat PV.nil))).toNat PV.nil))
                            next_w1_0 n10 (IntKind.wrap .i64 (n8 + (1 : Int)))
                          else none
                        else none
                      else none
                    else none
                  else none
                else none
              else none
            else none
          else none
        else none
      else ret0 0 false h3
    else none
  else ret0 n7 true h3

theorem f98_w1b0_mem (k : Nat) (retF : Int × Bool × (List HE) → R) (NX_w1 : St → R) (p1 : PV) (p2 : PV) (h3 : List HE) (n7 : Int) (n8 : Int) : exec (f98_E k) f98_cw1 (purgeK (f98_E k) f98_cw1 (loopK NX_w1 (kont (f98_E k) f98_code [1, 1, 0, 1, 0] (endK (f98_E k) Try.f98 [1000000000000] f98_un retF)))) (f98_hw1_0 p1 p2 h3 n7 n8) = f98_w1b0 (fun y0 y1 y2 => retF (y0, y1, y2)) (fun n7 n8 => NX_w1 (f98_hw1_0 p1 p2 h3 n7 n8)) p1 p2 h3 n7 n8 := by kernel_rfl

noncomputable def f98_w1b0N (k : Nat) (ret0 : Int → Bool → (List HE) → R) (next_w1_0 : Int → Int → R) (p1 : PV) (p2 : PV) (h3 : List HE) (n7 : Int) (n8 : Int) : R :=
  f98_w1b0 ret0 next_w1_0 p1 p2 h3 n7 n8
theorem f98_w1b0_eq (k : Nat) (retF : Int × Bool × (List HE) → R) (NX_w1 : St → R) (p1 : PV) (p2 : PV) (h3 : List HE) (n7 : Int) (n8 : Int) : exec (f98_E k) f98_cw1 (purgeK (f98_E k) f98_cw1 (loopK NX_w1 (kont (f98_E k) f98_code [1, 1, 0, 1, 0] (endK (f98_E k) Try.f98 [1000000000000] f98_un retF)))) (f98_hw1_0 p1 p2 h3 n7 n8) = f98_w1b0N k (fun y0 y1 y2 => retF (y0, y1, y2)) (fun n7 n8 => NX_w1 (f98_hw1_0 p1 p2 h3 n7 n8)) p1 p2 h3 n7 n8 :=
  (f98_w1b0_mem k retF NX_w1 p1 p2 h3 n7 n8)

noncomputable def f98_w1B (k : Nat) (ret0 : Int → Bool → (List HE) → R) (p1 : PV) (p2 : PV) (h3 : List HE) (nx : Int × Int → R) : Int × Int → R := (fun s => f98_w1b0N k ret0 (fun n7 n8 => nx (n7, n8)) p1 p2 h3 s.1 s.2)
noncomputable def f98_w1N (k : Nat) (ret0 : Int → Bool → (List HE) → R) (p1 : PV) (p2 : PV) (h3 : List HE) (n7 : Int) (n8 : Int) : R := loopR (f98_w1B k ret0 p1 p2 h3) k (n7, n8)
theorem f98_w1_eq (k : Nat) (retF : Int × Bool × (List HE) → R) (p1 : PV) (p2 : PV) (h3 : List HE) (n7 : Int) (n8 : Int) : f98_w1A k retF p1 p2 h3 n7 n8 = f98_w1N k (fun y0 y1 y2 => retF (y0, y1, y2)) p1 p2 h3 n7 n8 :=
  Eq.mp (by kernel_rfl) (loop_sim (E := (f98_E k)) (c := f98_cw1) (K := (kont (f98_E k) f98_code [1, 1, 0, 1, 0] (endK (f98_E k) Try.f98 [1000000000000] f98_un retF))) (S := Int × Int) (fun s => f98_hw1_0 p1 p2 h3 s.1 s.2) (f98_w1B k (fun y0 y1 y2 => retF (y0, y1, y2)) p1 p2 h3) (fun NX s => by
    exact Eq.mp (by kernel_rfl) (f98_w1b0_eq k retF NX p1 p2 h3 s.1 s.2)) k (n7, n8))

noncomputable def f98_e (ret0 : Int → Bool → (List HE) → R) (w1 : Int → Int → R) (p1 : PV) (p2 : PV) (h3 : List HE) : R :=
  w1 0 0

theorem f98_e_mem (k : Nat) (retF : Int × Bool × (List HE) → R) (p1 : PV) (p2 : PV) (h3 : List HE) : exec (f98_E k) f98_code (endK (f98_E k) Try.f98 [1000000000000] f98_un retF) ⟨[.hval 76 p1, .val 44 p2, .undef, .undef, .undef, .undef, .undef, .undef, .undef, .undef, .undef, .undef, .undef, .undef, .undef, .undef, .undef, .undef, .undef, .undef, .undef, .undef, .undef, .undef, .undef, .undef, .undef, .undef, .undef, .undef, .undef, .undef, .undef, .undef, .undef, .undef, .undef, .undef, .undef, .undef, .undef, .undef, .undef], [(1000000000000, .hp h3)]⟩ = f98_e (fun y0 y1 y2 => retF (y0, y1, y2)) (fun n7 n8 => f98_w1A k retF p1 p2 h3 n7 n8) p1 p2 h3 := by kernel_rfl

noncomputable def f98_N (k : Nat) (ret0 : Int → Bool → (List HE) → R) (p1 : PV) (p2 : PV) (h3 : List HE) : R :=
  f98_e ret0 (fun n7 n8 => f98_w1N k ret0 p1 p2 h3 n7 n8) p1 p2 h3
theorem f98_eq (k : Nat) (retF : Int × Bool × (List HE) → R) (p1 : PV) (p2 : PV) (h3 : List HE) : exec (f98_E k) f98_code (endK (f98_E k) Try.f98 [1000000000000] f98_un retF) ⟨[.hval 76 p1, .val 44 p2, .undef, .undef, .undef, .undef, .undef, .undef, .undef, .undef, .undef, .undef, .undef, .undef, .undef, .undef, .undef, .undef, .undef, .undef, .undef, .undef, .undef, .undef, .undef, .undef, .undef, .undef, .undef, .undef, .undef, .undef, .undef, .undef, .undef, .undef, .undef, .undef, .undef, .undef, .undef, .undef, .undef], [(1000000000000, .hp h3)]⟩ = f98_N k (fun y0 y1 y2 => retF (y0, y1, y2)) p1 p2 h3 :=
  (f98_e_mem k retF p1 p2 h3).trans (by rw [show (fun n7 n8 => f98_w1A k retF p1 p2 h3 n7 n8) = (fun n7 n8 => f98_w1N k (fun y0 y1 y2 => retF (y0, y1, y2)) p1 p2 h3 n7 n8) from funext fun n7 => funext fun n8 => f98_w1_eq k retF p1 p2 h3 n7 n8]; rfl)

noncomputable def G98 : Nat → PV → PV → (List HE) → (Int → Bool → (List HE) → R) → R
  | 0, _, _, _, _ => none
  | k + 1, p1, p2, h3, ret0 => f98_N k  ret0 p1 p2 h3
theorem S98 : ∀ k, Snd Try.prog 98 f98_I f98_O (fun x ret => G98 k x.1 x.2.1 x.2.2 (fun y0 y1 y2 => ret (y0, y1, y2)))
  | 0 => snd_none
  | k + 1 => snd_step (E := f98_E k ) rfl laidOut noNums orc0_ok (f := 98) (fn := Try.f98) (code := f98_code) Try.func98 (by kernel_rfl) (drawsOk_of laidOut orc0_ok mixed (by kernel_rfl)) f98_un f98_un_ok [1000000000000] (fun _ => rfl)
      (fun x ret => f98_eq k  ret x.1 x.2.1 x.2.2)

/- (*catchpole/ahead.Ahead).part -/
noncomputable def f71_I : PV × PV × Int × (List HE) → List SV × Obs := fun x => ([.hval 51 x.1, .val 44 x.2.1, .int .i64 x.2.2.1], [(1000000000000, .hp x.2.2.2)])
noncomputable def f71_D : List SV → Obs → Option (PV × PV × Int × (List HE))
  | [.hval 51 p1, .val 44 p2, .int .i64 n3], [(1000000000000, .hp h4)] => some (p1, p2, n3, h4)
  | _, _ => none
theorem f71_D_ok (args : List SV) (B : Obs) (x : PV × PV × Int × (List HE)) (h : f71_D args B = some x) : f71_I x = (args, B) := by
  unfold f71_D at h
  split at h
  · injection h with h; subst h; rfl
  · cases h
noncomputable def f71_O : Int × Bool × (List HE) → Out := (fun y => ([.int .i64 y.1, .bool y.2.1], [(1000000000000, .hp y.2.2)]))
noncomputable def f71_un : Out → Option (Int × Bool × (List HE))
  | ([.int .i64 y0, .bool y1], [(1000000000000, .hp y2)]) => some (y0, y1, y2)
  | _ => none
theorem f71_un_ok (o : Out) (y : Int × Bool × (List HE)) (h : f71_un o = some y) : o = f71_O y := by
  unfold f71_un at h
  split at h
  · injection h with h; subst h; rfl
  · cases h
noncomputable def f71_msk : Nat → Option (List Nat) := fun key =>  none
noncomputable def f71_C (c98 : PV → PV → (List HE) → (Int → Bool → (List HE) → R) → R) : Oracle := orc 98 f98_D f98_O (fun x ret => c98 x.1 x.2.1 x.2.2 (fun y0 y1 y2 => ret (y0, y1, y2))) <| orc0
noncomputable def f71_E (k : Nat) (c98 : PV → PV → (List HE) → (Int → Bool → (List HE) → R) → R) : Env := { P := Try.prog, nilOwn := fun d => false, fldOwn := fun d i => false, ownPar := ownPars, ownRet := false, hpD := fun d => false, hpF := hpFs, hpNew := false, mask := f71_msk, fuel := k, C := f71_C c98 }
noncomputable def f71_code : Code := Try.f71.body.getD .skip
noncomputable def f71_e (c98 : PV → PV → (List HE) → (Int → Bool → (List HE) → R) → R) (ret0 : Int → Bool → (List HE) → R) (p1 : PV) (p2 : PV) (n3 : Int) (h4 : List HE) : R :=
  bif (PV.isRp p1) then
    bif (true && true && (hokV h4 82 (PV.rI p1))) then
      c98 (PV.fld (hvarOf h4 (PV.rI p1)) 0) p2 h4 fun n5 b6 h7 =>
      bif (b6 == true) then
        bif ((decide ((0 : Int) ≤ n3)) == true) then
          bif (PV.isRp p1) then
            bif (true && true && (hokV h7 82 (PV.rI p1))) then
              ret0 n5 (decide (n3 ≤ (PV.num (PV.fld (hvarOf h7 (PV.rI p1)) 1)))) h7
            else none
          else none
        else ret0 n5 false h7
      else ret0 n5 false h7
    else none
  else none

theorem f71_e_mem (k : Nat) (c98 : PV → PV → (List HE) → (Int → Bool → (List HE) → R) → R) (retF : Int × Bool × (List HE) → R) (p1 : PV) (p2 : PV) (n3 : Int) (h4 : List HE) : exec (f71_E k c98) f71_code (endK (f71_E k c98) Try.f71 [1000000000000] f71_un retF) ⟨[.hval 51 p1, .val 44 p2, .int .i64 n3, .undef, .undef, .undef, .undef, .undef, .undef, .undef, .undef, .undef, .undef, .undef, .undef, .undef, .undef, .undef, .undef, .undef, .undef, .undef, .undef, .undef, .undef, .undef, .undef, .undef, .undef, .undef, .undef, .undef, .undef], [(1000000000000, .hp h4)]⟩ = f71_e c98 (fun y0 y1 y2 => retF (y0, y1, y2)) p1 p2 n3 h4 := by kernel_rfl

noncomputable def f71_N (k : Nat) (c98 : PV → PV → (List HE) → (Int → Bool → (List HE) → R) → R) (ret0 : Int → Bool → (List HE) → R) (p1 : PV) (p2 : PV) (n3 : Int) (h4 : List HE) : R :=
  f71_e c98 ret0 p1 p2 n3 h4
theorem f71_eq (k : Nat) (c98 : PV → PV → (List HE) → (Int → Bool → (List HE) → R) → R) (retF : Int × Bool × (List HE) → R) (p1 : PV) (p2 : PV) (n3 : Int) (h4 : List HE) : exec (f71_E k c98) f71_code (endK (f71_E k c98) Try.f71 [1000000000000] f71_un retF) ⟨[.hval 51 p1, .val 44 p2, .int .i64 n3, .undef, .undef, .undef, .undef, .undef, .undef, .undef, .undef, .undef, .undef, .undef, .undef, .undef, .undef, .undef, .undef, .undef, .undef, .undef, .undef, .undef, .undef, .undef, .undef, .undef, .undef, .undef, .undef, .undef, .undef], [(1000000000000, .hp h4)]⟩ = f71_N k c98 (fun y0 y1 y2 => retF (y0, y1, y2)) p1 p2 n3 h4 :=
  (f71_e_mem k c98 retF p1 p2 n3 h4)

noncomputable def G71 : Nat → PV → PV → Int → (List HE) → (Int → Bool → (List HE) → R) → R
  | 0, _, _, _, _, _ => none
  | k + 1, p1, p2, n3, h4, ret0 => f71_N k (G98 k) ret0 p1 p2 n3 h4
theorem S71 : ∀ k, Snd Try.prog 71 f71_I f71_O (fun x ret => G71 k x.1 x.2.1 x.2.2.1 x.2.2.2 (fun y0 y1 y2 => ret (y0, y1, y2)))
  | 0 => snd_none
  | k + 1 => snd_step (E := f71_E k (G98 k)) rfl laidOut noNums (orc_ok (S98 k).o f98_D_ok orc0_ok) (f := 71) (fn := Try.f71) (code := f71_code) Try.func71 (by kernel_rfl) (drawsOk_of laidOut (orc_ok (S98 k).o f98_D_ok orc0_ok) mixed (by kernel_rfl)) f71_un f71_un_ok [1000000000000] (fun _ => rfl)
      (fun x ret => f71_eq k (G98 k) ret x.1 x.2.1 x.2.2.1 x.2.2.2)

/- (*catchpole/ahead.Ahead).Into -/
noncomputable def f42_I : PV × PV × Int × (List HE) → List SV × Obs := fun x => ([.hval 51 x.1, .val 44 x.2.1, .int .i64 x.2.2.1], [(1000000000000, .hp x.2.2.2)])
noncomputable def f42_D : List SV → Obs → Option (PV × PV × Int × (List HE))
  | [.hval 51 p1, .val 44 p2, .int .i64 n3], [(1000000000000, .hp h4)] => some (p1, p2, n3, h4)
  | _, _ => none
theorem f42_D_ok (args : List SV) (B : Obs) (x : PV × PV × Int × (List HE)) (h : f42_D args B = some x) : f42_I x = (args, B) := by
  unfold f42_D at h
  split at h
  · injection h with h; subst h; rfl
  · cases h
noncomputable def f42_O : Bool × (List HE) → Out := (fun y => ([.bool y.1], [(1000000000000, .hp y.2)]))
noncomputable def f42_un : Out → Option (Bool × (List HE))
  | ([.bool y0], [(1000000000000, .hp y1)]) => some (y0, y1)
  | _ => none
theorem f42_un_ok (o : Out) (y : Bool × (List HE)) (h : f42_un o = some y) : o = f42_O y := by
  unfold f42_un at h
  split at h
  · injection h with h; subst h; rfl
  · cases h
noncomputable def f42_msk : Nat → Option (List Nat) := fun key =>  none
noncomputable def f42_C (c70 : PV → Int → Int → Int → (List HE) → (Bool → (List HE) → R) → R) (c71 : PV → PV → Int → (List HE) → (Int → Bool → (List HE) → R) → R) : Oracle := orc 70 f70_D f70_O (fun x ret => c70 x.1 x.2.1 x.2.2.1 x.2.2.2.1 x.2.2.2.2 (fun y0 y1 => ret (y0, y1))) <| orc 71 f71_D f71_O (fun x ret => c71 x.1 x.2.1 x.2.2.1 x.2.2.2 (fun y0 y1 y2 => ret (y0, y1, y2))) <| orc0
noncomputable def f42_E (k : Nat) (c70 : PV → Int → Int → Int → (List HE) → (Bool → (List HE) → R) → R) (c71 : PV → PV → Int → (List HE) → (Int → Bool → (List HE) → R) → R) : Env := { P := Try.prog, nilOwn := fun d => false, fldOwn := fun d i => false, ownPar := ownPars, ownRet := false, hpD := fun d => false, hpF := hpFs, hpNew := false, mask := f42_msk, fuel := k, C := f42_C c70 c71 }
noncomputable def f42_code : Code := Try.f42.body.getD .skip
noncomputable def f42_e (c70 : PV → Int → Int → Int → (List HE) → (Bool → (List HE) → R) → R) (c71 : PV → PV → Int → (List HE) → (Int → Bool → (List HE) → R) → R) (ret0 : Bool → (List HE) → R) (p1 : PV) (p2 : PV) (n3 : Int) (h4 : List HE) : R :=
  c71 p1 p2 n3 h4 fun n5 b6 h7 =>
  bif (b6 == true) then
    c70 p1 n5 n3 n3 h7 fun b8 h9 =>
    ret0 b8 h9
  else ret0 false h7

theorem f42_e_mem (k : Nat) (c70 : PV → Int → Int → Int → (List HE) → (Bool → (List HE) → R) → R) (c71 : PV → PV → Int → (List HE) → (Int → Bool → (List HE) → R) → R) (retF : Bool × (List HE) → R) (p1 : PV) (p2 : PV) (n3 : Int) (h4 : List HE) : exec (f42_E k c70 c71) f42_code (endK (f42_E k c70 c71) Try.f42 [1000000000000] f42_un retF) ⟨[.hval 51 p1, .val 44 p2, .int .i64 n3, .undef, .undef, .undef, .undef, .undef, .undef, .undef, .undef, .undef, .undef, .undef, .undef, .undef, .undef, .undef, .undef, .undef, .undef, .undef, .undef, .undef], [(1000000000000, .hp h4)]⟩ = f42_e c70 c71 (fun y0 y1 => retF (y0, y1)) p1 p2 n3 h4 := by kernel_rfl

noncomputable def f42_N (k : Nat) (c70 : PV → Int → Int → Int → (List HE) → (Bool → (List HE) → R) → R) (c71 : PV → PV → Int → (List HE) → (Int → Bool → (List HE) → R) → R) (ret0 : Bool → (List HE) → R) (p1 : PV) (p2 : PV) (n3 : Int) (h4 : List HE) : R :=
  f42_e c70 c71 ret0 p1 p2 n3 h4
theorem f42_eq (k : Nat) (c70 : PV → Int → Int → Int → (List HE) → (Bool → (List HE) → R) → R) (c71 : PV → PV → Int → (List HE) → (Int → Bool → (List HE) → R) → R) (retF : Bool × (List HE) → R) (p1 : PV) (p2 : PV) (n3 : Int) (h4 : List HE) : exec (f42_E k c70 c71) f42_code (endK (f42_E k c70 c71) Try.f42 [1000000000000] f42_un retF) ⟨[.hval 51 p1, .val 44 p2, .int .i64 n3, .undef, .undef, .undef, .undef, .undef, .undef, .undef, .undef, .undef, .undef, .undef, .undef, .undef, .undef, .undef, .undef, .undef, .undef, .undef, .undef, .undef], [(1000000000000, .hp h4)]⟩ = f42_N k c70 c71 (fun y0 y1 => retF (y0, y1)) p1 p2 n3 h4 :=
  (f42_e_mem k c70 c71 retF p1 p2 n3 h4)

noncomputable def G42 : Nat → PV → PV → Int → (List HE) → (Bool → (List HE) → R) → R
  | 0, _, _, _, _, _ => none
  | k + 1, p1, p2, n3, h4, ret0 => f42_N k (G70 k) (G71 k) ret0 p1 p2 n3 h4
theorem S42 : ∀ k, Snd Try.prog 42 f42_I f42_O (fun x ret => G42 k x.1 x.2.1 x.2.2.1 x.2.2.2 (fun y0 y1 => ret (y0, y1)))
  | 0 => snd_none
  | k + 1 => snd_step (E := f42_E k (G70 k) (G71 k)) rfl laidOut noNums (orc_ok (S70 k).o f70_D_ok (orc_ok (S71 k).o f71_D_ok orc0_ok)) (f := 42) (fn := Try.f42) (code := f42_code) Try.func42 (by kernel_rfl) (drawsOk_of laidOut (orc_ok (S70 k).o f70_D_ok (orc_ok (S71 k).o f71_D_ok orc0_ok)) mixed (by kernel_rfl)) f42_un f42_un_ok [1000000000000] (fun _ => rfl)
      (fun x ret => f42_eq k (G70 k) (G71 k) ret x.1 x.2.1 x.2.2.1 x.2.2.2)

/- (*catchpole/ahead.Ahead).Says -/
noncomputable def f40_I : PV × (List HE) → List SV × Obs := fun x => ([.hval 51 x.1], [(1000000000000, .hp x.2)])
noncomputable def f40_D : List SV → Obs → Option (PV × (List HE))
  | [.hval 51 p1], [(1000000000000, .hp h2)] => some (p1, h2)
  | _, _ => none
theorem f40_D_ok (args : List SV) (B : Obs) (x : PV × (List HE)) (h : f40_D args B = some x) : f40_I x = (args, B) := by
  unfold f40_D at h
  split at h
  · injection h with h; subst h; rfl
  · cases h
noncomputable def f40_O : Bool × (List HE) → Out := (fun y => ([.bool y.1], [(1000000000000, .hp y.2)]))
noncomputable def f40_un : Out → Option (Bool × (List HE))
  | ([.bool y0], [(1000000000000, .hp y1)]) => some (y0, y1)
  | _ => none
theorem f40_un_ok (o : Out) (y : Bool × (List HE)) (h : f40_un o = some y) : o = f40_O y := by
  unfold f40_un at h
  split at h
  · injection h with h; subst h; rfl
  · cases h
noncomputable def f40_msk : Nat → Option (List Nat) := fun key =>  none
noncomputable def f40_C (c70 : PV → Int → Int → Int → (List HE) → (Bool → (List HE) → R) → R) : Oracle := orc 70 f70_D f70_O (fun x ret => c70 x.1 x.2.1 x.2.2.1 x.2.2.2.1 x.2.2.2.2 (fun y0 y1 => ret (y0, y1))) <| orc0
noncomputable def f40_E (k : Nat) (c70 : PV → Int → Int → Int → (List HE) → (Bool → (List HE) → R) → R) : Env := { P := Try.prog, nilOwn := fun d => false, fldOwn := fun d i => false, ownPar := ownPars, ownRet := false, hpD := fun d => false, hpF := hpFs, hpNew := false, mask := f40_msk, fuel := k, C := f40_C c70 }
noncomputable def f40_code : Code := Try.f40.body.getD .skip
noncomputable def f40_e (c70 : PV → Int → Int → Int → (List HE) → (Bool → (List HE) → R) → R) (ret0 : Bool → (List HE) → R) (p1 : PV) (h2 : List HE) : R :=
  c70 p1 0 0 0 h2 fun b3 h4 =>
  ret0 b3 h4

theorem f40_e_mem (k : Nat) (c70 : PV → Int → Int → Int → (List HE) → (Bool → (List HE) → R) → R) (retF : Bool × (List HE) → R) (p1 : PV) (h2 : List HE) : exec (f40_E k c70) f40_code (endK (f40_E k c70) Try.f40 [1000000000000] f40_un retF) ⟨[.hval 51 p1, .undef, .undef, .undef, .undef], [(1000000000000, .hp h2)]⟩ = f40_e c70 (fun y0 y1 => retF (y0, y1)) p1 h2 := by kernel_rfl

noncomputable def f40_N (k : Nat) (c70 : PV → Int → Int → Int → (List HE) → (Bool → (List HE) → R) → R) (ret0 : Bool → (List HE) → R) (p1 : PV) (h2 : List HE) : R :=
  f40_e c70 ret0 p1 h2
theorem f40_eq (k : Nat) (c70 : PV → Int → Int → Int → (List HE) → (Bool → (List HE) → R) → R) (retF : Bool × (List HE) → R) (p1 : PV) (h2 : List HE) : exec (f40_E k c70) f40_code (endK (f40_E k c70) Try.f40 [1000000000000] f40_un retF) ⟨[.hval 51 p1, .undef, .undef, .undef, .undef], [(1000000000000, .hp h2)]⟩ = f40_N k c70 (fun y0 y1 => retF (y0, y1)) p1 h2 :=
  (f40_e_mem k c70 retF p1 h2)

noncomputable def G40 : Nat → PV → (List HE) → (Bool → (List HE) → R) → R
  | 0, _, _, _ => none
  | k + 1, p1, h2, ret0 => f40_N k (G70 k) ret0 p1 h2
theorem S40 : ∀ k, Snd Try.prog 40 f40_I f40_O (fun x ret => G40 k x.1 x.2 (fun y0 y1 => ret (y0, y1)))
  | 0 => snd_none
  | k + 1 => snd_step (E := f40_E k (G70 k)) rfl laidOut noNums (orc_ok (S70 k).o f70_D_ok orc0_ok) (f := 40) (fn := Try.f40) (code := f40_code) Try.func40 (by kernel_rfl) (drawsOk_of laidOut (orc_ok (S70 k).o f70_D_ok orc0_ok) mixed (by kernel_rfl)) f40_un f40_un_ok [1000000000000] (fun _ => rfl)
      (fun x ret => f40_eq k (G70 k) ret x.1 x.2)

/- catchpole/catchpolelaw21.awake -/
noncomputable def f35_I : Unit → List SV × Obs := fun x => ([], [])
noncomputable def f35_D : List SV → Obs → Option (Unit)
  | [], [] => some ()
  | _, _ => none
theorem f35_D_ok (args : List SV) (B : Obs) (x : Unit) (h : f35_D args B = some x) : f35_I x = (args, B) := by
  unfold f35_D at h
  split at h
  · injection h with h; subst h; rfl
  · cases h
noncomputable def f35_O : Bool → Out := (fun y => ([.bool y], []))
noncomputable def f35_un : Out → Option (Bool)
  | ([.bool y0], []) => some y0
  | _ => none
theorem f35_un_ok (o : Out) (y : Bool) (h : f35_un o = some y) : o = f35_O y := by
  unfold f35_un at h
  split at h
  · injection h with h; subst h; rfl
  · cases h
noncomputable def f35_msk : Nat → Option (List Nat) := fun key =>  none
noncomputable def f35_C (c36 : PV → PV → (PV → R) → R) (c38 : PV → (PV → R) → R) (c39 : PV → PV → Bool → (List HE) → (PV → Int → (List HE) → R) → R) (c40 : PV → (List HE) → (Bool → (List HE) → R) → R) (c42 : PV → PV → Int → (List HE) → (Bool → (List HE) → R) → R) : Oracle := orc 36 f36_D f36_O (fun x ret => c36 x.1 x.2 (fun y0 => ret y0)) <| orc 38 f38_D f38_O (fun x ret => c38 x (fun y0 => ret y0)) <| orc 39 f39_D f39_O (fun x ret => c39 x.1 x.2.1 x.2.2.1 x.2.2.2 (fun y0 y1 y2 => ret (y0, y1, y2))) <| orc 40 f40_D f40_O (fun x ret => c40 x.1 x.2 (fun y0 y1 => ret (y0, y1))) <| orc 42 f42_D f42_O (fun x ret => c42 x.1 x.2.1 x.2.2.1 x.2.2.2 (fun y0 y1 => ret (y0, y1))) <| orc0
noncomputable def f35_E (k : Nat) (c36 : PV → PV → (PV → R) → R) (c38 : PV → (PV → R) → R) (c39 : PV → PV → Bool → (List HE) → (PV → Int → (List HE) → R) → R) (c40 : PV → (List HE) → (Bool → (List HE) → R) → R) (c42 : PV → PV → Int → (List HE) → (Bool → (List HE) → R) → R) : Env := { P := Try.prog, nilOwn := fun d => d == 9, fldOwn := fun d i => false, ownPar := ownPars, ownRet := false, hpD := fun d => false, hpF := hpFs, hpNew := true, mask := f35_msk, fuel := k, C := f35_C c36 c38 c39 c40 c42 }
noncomputable def f35_code : Code := Try.f35.body.getD .skip
noncomputable def f35_e (c36 : PV → PV → (PV → R) → R) (c38 : PV → (PV → R) → R) (c39 : PV → PV → Bool → (List HE) → (PV → Int → (List HE) → R) → R) (c40 : PV → (List HE) → (Bool → (List HE) → R) → R) (c42 : PV → PV → Int → (List HE) → (Bool → (List HE) → R) → R) (ret0 : Bool → R) : R :=
  c38 (PV.list [(PV.int 97)]) fun p1 =>
  c38 (PV.list [(PV.int 98)]) fun p2 =>
  c36 p1 p2 fun p3 =>
  c39 p3 (PV.list [(PV.int 97), (PV.int 98)]) true ([] : List HE) fun p4 n5 h6 =>
  bif ((decide (n5 = (0 : Int))) == true) then
    bif ((!(PV.isNil p4)) == true) then
      c42 p4 (PV.list [(PV.int 1)]) 1 h6 fun b7 h8 =>
      bif (b7 == true) then
        c42 p4 (PV.list [(PV.int 1)]) 0 h8 fun b9 h10 =>
        bif ((!b9) == true) then
          c40 p4 h10 fun b11 h12 =>
          ret0 b11
        else ret0 false
      else ret0 false
    else ret0 false
  else ret0 false

theorem f35_e_mem (k : Nat) (c36 : PV → PV → (PV → R) → R) (c38 : PV → (PV → R) → R) (c39 : PV → PV → Bool → (List HE) → (PV → Int → (List HE) → R) → R) (c40 : PV → (List HE) → (Bool → (List HE) → R) → R) (c42 : PV → PV → Int → (List HE) → (Bool → (List HE) → R) → R) (retF : Bool → R) : exec (f35_E k c36 c38 c39 c40 c42) f35_code (endK (f35_E k c36 c38 c39 c40 c42) Try.f35 [] f35_un retF) ⟨[.undef, .undef, .undef, .undef, .undef, .undef, .undef, .undef, .undef, .undef, .undef, .undef, .undef, .undef, .undef, .undef, .undef, .undef, .undef, .undef, .undef, .undef, .undef, .undef, .undef, .undef, .undef, .undef, .undef, .undef, .undef, .undef, .undef, .undef, .undef], [(1000000000000, .hp ([] : List HE))]⟩ = f35_e c36 c38 c39 c40 c42 (fun y0 => retF y0) := by kernel_rfl

noncomputable def f35_N (k : Nat) (c36 : PV → PV → (PV → R) → R) (c38 : PV → (PV → R) → R) (c39 : PV → PV → Bool → (List HE) → (PV → Int → (List HE) → R) → R) (c40 : PV → (List HE) → (Bool → (List HE) → R) → R) (c42 : PV → PV → Int → (List HE) → (Bool → (List HE) → R) → R) (ret0 : Bool → R) : R :=
  f35_e c36 c38 c39 c40 c42 ret0
theorem f35_eq (k : Nat) (c36 : PV → PV → (PV → R) → R) (c38 : PV → (PV → R) → R) (c39 : PV → PV → Bool → (List HE) → (PV → Int → (List HE) → R) → R) (c40 : PV → (List HE) → (Bool → (List HE) → R) → R) (c42 : PV → PV → Int → (List HE) → (Bool → (List HE) → R) → R) (retF : Bool → R) : exec (f35_E k c36 c38 c39 c40 c42) f35_code (endK (f35_E k c36 c38 c39 c40 c42) Try.f35 [] f35_un retF) ⟨[.undef, .undef, .undef, .undef, .undef, .undef, .undef, .undef, .undef, .undef, .undef, .undef, .undef, .undef, .undef, .undef, .undef, .undef, .undef, .undef, .undef, .undef, .undef, .undef, .undef, .undef, .undef, .undef, .undef, .undef, .undef, .undef, .undef, .undef, .undef], [(1000000000000, .hp ([] : List HE))]⟩ = f35_N k c36 c38 c39 c40 c42 (fun y0 => retF y0) :=
  (f35_e_mem k c36 c38 c39 c40 c42 retF)

noncomputable def G35 : Nat → (Bool → R) → R
  | 0, _ => none
  | k + 1, ret0 => f35_N k (G36 k) (G38 k) (G39 k) (G40 k) (G42 k) ret0 
theorem S35 : ∀ k, Snd Try.prog 35 f35_I f35_O (fun x ret => G35 k (fun y0 => ret y0))
  | 0 => snd_none
  | k + 1 => snd_step (E := f35_E k (G36 k) (G38 k) (G39 k) (G40 k) (G42 k)) rfl laidOut noNums (orc_ok (S36 k).o f36_D_ok (orc_ok (S38 k).o f38_D_ok (orc_ok (S39 k).o f39_D_ok (orc_ok (S40 k).o f40_D_ok (orc_ok (S42 k).o f42_D_ok orc0_ok))))) (f := 35) (fn := Try.f35) (code := f35_code) Try.func35 (by kernel_rfl) (drawsOk_of laidOut (orc_ok (S36 k).o f36_D_ok (orc_ok (S38 k).o f38_D_ok (orc_ok (S39 k).o f39_D_ok (orc_ok (S40 k).o f40_D_ok (orc_ok (S42 k).o f42_D_ok orc0_ok))))) mixed (by kernel_rfl)) f35_un f35_un_ok [] (fun _ => rfl)
      (fun x ret => f35_eq k (G36 k) (G38 k) (G39 k) (G40 k) (G42 k) ret)

/- catchpole/catchpolelaw21.star -/
noncomputable def f37_I : PV → List SV × Obs := fun x => ([.val 27 x], [])
noncomputable def f37_D : List SV → Obs → Option (PV)
  | [.val 27 p1], [] => some p1
  | _, _ => none
theorem f37_D_ok (args : List SV) (B : Obs) (x : PV) (h : f37_D args B = some x) : f37_I x = (args, B) := by
  unfold f37_D at h
  split at h
  · injection h with h; subst h; rfl
  · cases h
noncomputable def f37_O : PV → Out := (fun y => ([.val 27 y], []))
noncomputable def f37_un : Out → Option (PV)
  | ([.val 27 y0], []) => some y0
  | _ => none
theorem f37_un_ok (o : Out) (y : PV) (h : f37_un o = some y) : o = f37_O y := by
  unfold f37_un at h
  split at h
  · injection h with h; subst h; rfl
  · cases h
noncomputable def f37_msk : Nat → Option (List Nat) := fun key =>  none
noncomputable def f37_C : Oracle := orc0
noncomputable def f37_E (k : Nat) : Env := { P := Try.prog, nilOwn := fun d => false, fldOwn := fun d i => false, ownPar := ownPars, ownRet := false, hpD := fun d => false, hpF := hpFs, hpNew := false, mask := f37_msk, fuel := k, C := f37_C }
noncomputable def f37_code : Code := Try.f37.body.getD .skip
noncomputable def f37_e (ret0 : PV → R) (p1 : PV) : R :=
  ret0 (PV.agg [(PV.int 5), (PV.agg [(PV.int 0), (PV.int 0), (PV.int 0), (PV.int 0)]), (PV.int 0), (PV.list [p1])])

theorem f37_e_mem (k : Nat) (retF : PV → R) (p1 : PV) : exec (f37_E k) f37_code (endK (f37_E k) Try.f37 [] f37_un retF) ⟨[.val 27 p1, .undef, .undef, .undef, .undef, .undef], []⟩ = f37_e (fun y0 => retF y0) p1 := by kernel_rfl

noncomputable def f37_N (k : Nat) (ret0 : PV → R) (p1 : PV) : R :=
  f37_e ret0 p1
theorem f37_eq (k : Nat) (retF : PV → R) (p1 : PV) : exec (f37_E k) f37_code (endK (f37_E k) Try.f37 [] f37_un retF) ⟨[.val 27 p1, .undef, .undef, .undef, .undef, .undef], []⟩ = f37_N k (fun y0 => retF y0) p1 :=
  (f37_e_mem k retF p1)

noncomputable def G37 : Nat → PV → (PV → R) → R
  | 0, _, _ => none
  | k + 1, p1, ret0 => f37_N k  ret0 p1
theorem S37 : ∀ k, Snd Try.prog 37 f37_I f37_O (fun x ret => G37 k x (fun y0 => ret y0))
  | 0 => snd_none
  | k + 1 => snd_step (E := f37_E k ) rfl laidOut noNums orc0_ok (f := 37) (fn := Try.f37) (code := f37_code) Try.func37 (by kernel_rfl) (drawsOk_of laidOut orc0_ok mixed (by kernel_rfl)) f37_un f37_un_ok [] (fun _ => rfl)
      (fun x ret => f37_eq k  ret x)

end Go.Proofs.Ythdonefmfgnilaa
