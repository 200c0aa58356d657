/- Functions of the program as Lean functions, each tied to the program by the kernel: catchpolelaw13.RankTotal, catchpolelaw13.RankParts, catchpolelaw13.RankSays, catchpolelaw13.RankBest -/
import Derived.Test.YtbmhbnkejgjfdaaX44
import Derived.Test.YtbmhbnkejgjfdaaProg
import Derived.KernelRfl
set_option linter.unusedVariables false
set_option maxRecDepth 100000
namespace Go.Proofs.Ytbmhbnkejgjfdaa
open Go Go.X
theorem laidOut : laidOutB Try.prog = true := by kernel_rfl
theorem noNums : noNum Try.prog = true := by kernel_rfl
theorem mixed : Try.prog.follows .mixedOrders = true := by kernel_rfl
noncomputable def ownPars : FuncId → Nat → Bool := fun f i => (f == 47 && i == 0)

/- catchpole/catchpolelaw13.byt -/
noncomputable def f19_I : Int → List SV × Obs := fun x => ([.int .u8 x], [])
noncomputable def f19_D : List SV → Obs → Option (Int)
  | [.int .u8 n1], [] => some n1
  | _, _ => none
theorem f19_D_ok (args : List SV) (B : Obs) (x : Int) (h : f19_D args B = some x) : f19_I x = (args, B) := by
  unfold f19_D at h
  split at h
  · injection h with h; subst h; rfl
  · cases h
noncomputable def f19_O : PV → Out := (fun y => ([.val 24 y], []))
noncomputable def f19_un : Out → Option (PV)
  | ([.val 24 y0], []) => some y0
  | _ => none
theorem f19_un_ok (o : Out) (y : PV) (h : f19_un o = some y) : o = f19_O y := by
  unfold f19_un at h
  split at h
  · injection h with h; subst h; rfl
  · cases h
noncomputable def f19_msk : Nat → Option (List Nat) := fun key =>  none
noncomputable def f19_C : Oracle := orc0
noncomputable def f19_E (k : Nat) : Env := { P := Try.prog, nilOwn := fun d => false, fldOwn := fun d i => false, ownPar := ownPars, ownRet := false, mask := f19_msk, fuel := k, C := f19_C }
noncomputable def f19_code : Code := Try.f19.body.getD .skip
noncomputable def f19_e (ret0 : PV → R) (n1 : Int) : R :=
  ret0 (PV.agg [(PV.int 2), (PV.int n1), (PV.list [])])

theorem f19_e_mem (k : Nat) (retF : PV → R) (n1 : Int) : exec (f19_E k) f19_code (endK (f19_E k) Try.f19 [] f19_un retF) ⟨[.int .u8 n1, .undef, .undef, .undef, .undef], []⟩ = f19_e (fun y0 => retF y0) n1 := by kernel_rfl

noncomputable def f19_N (k : Nat) (ret0 : PV → R) (n1 : Int) : R :=
  f19_e ret0 n1
theorem f19_eq (k : Nat) (retF : PV → R) (n1 : Int) : exec (f19_E k) f19_code (endK (f19_E k) Try.f19 [] f19_un retF) ⟨[.int .u8 n1, .undef, .undef, .undef, .undef], []⟩ = f19_N k (fun y0 => retF y0) n1 :=
  (f19_e_mem k retF n1)

noncomputable def G19 : Nat → Int → (PV → R) → R
  | 0, _, _ => none
  | k + 1, n1, ret0 => f19_N k  ret0 n1
theorem S19 : ∀ k, Snd Try.prog 19 f19_I f19_O (fun x ret => G19 k x (fun y0 => ret y0))
  | 0 => snd_none
  | k + 1 => snd_step (E := f19_E k ) rfl laidOut noNums orc0_ok (f := 19) (fn := Try.f19) (code := f19_code) Try.func19 (by kernel_rfl) (drawsOk_of laidOut orc0_ok mixed (by kernel_rfl)) f19_un f19_un_ok [] (fun _ => rfl)
      (fun x ret => f19_eq k  ret x)

/- catchpole/catchpolelaw13.row -/
noncomputable def f16_I : PV × PV → List SV × Obs := fun x => ([.val 24 x.1, .val 24 x.2], [])
noncomputable def f16_D : List SV → Obs → Option (PV × PV)
  | [.val 24 p1, .val 24 p2], [] => some (p1, p2)
  | _, _ => none
theorem f16_D_ok (args : List SV) (B : Obs) (x : PV × PV) (h : f16_D args B = some x) : f16_I x = (args, B) := by
  unfold f16_D at h
  split at h
  · injection h with h; subst h; rfl
  · cases h
noncomputable def f16_O : PV → Out := (fun y => ([.val 24 y], []))
noncomputable def f16_un : Out → Option (PV)
  | ([.val 24 y0], []) => some y0
  | _ => none
theorem f16_un_ok (o : Out) (y : PV) (h : f16_un o = some y) : o = f16_O y := by
  unfold f16_un at h
  split at h
  · injection h with h; subst h; rfl
  · cases h
noncomputable def f16_msk : Nat → Option (List Nat) := fun key =>  none
noncomputable def f16_C : Oracle := orc0
noncomputable def f16_E (k : Nat) : Env := { P := Try.prog, nilOwn := fun d => false, fldOwn := fun d i => false, ownPar := ownPars, ownRet := false, mask := f16_msk, fuel := k, C := f16_C }
noncomputable def f16_code : Code := Try.f16.body.getD .skip
noncomputable def f16_e (ret0 : PV → R) (p1 : PV) (p2 : PV) : R :=
  ret0 (PV.agg [(PV.int 3), (PV.int 0), (PV.list [p1, p2])])

theorem f16_e_mem (k : Nat) (retF : PV → R) (p1 : PV) (p2 : PV) : exec (f16_E k) f16_code (endK (f16_E k) Try.f16 [] f16_un retF) ⟨[.val 24 p1, .val 24 p2, .undef, .undef, .undef, .undef, .undef, .undef, .undef], []⟩ = f16_e (fun y0 => retF y0) p1 p2 := by kernel_rfl

noncomputable def f16_N (k : Nat) (ret0 : PV → R) (p1 : PV) (p2 : PV) : R :=
  f16_e ret0 p1 p2
theorem f16_eq (k : Nat) (retF : PV → R) (p1 : PV) (p2 : PV) : exec (f16_E k) f16_code (endK (f16_E k) Try.f16 [] f16_un retF) ⟨[.val 24 p1, .val 24 p2, .undef, .undef, .undef, .undef, .undef, .undef, .undef], []⟩ = f16_N k (fun y0 => retF y0) p1 p2 :=
  (f16_e_mem k retF p1 p2)

noncomputable def G16 : Nat → PV → PV → (PV → R) → R
  | 0, _, _, _ => none
  | k + 1, p1, p2, ret0 => f16_N k  ret0 p1 p2
theorem S16 : ∀ k, Snd Try.prog 16 f16_I f16_O (fun x ret => G16 k x.1 x.2 (fun y0 => ret y0))
  | 0 => snd_none
  | k + 1 => snd_step (E := f16_E k ) rfl laidOut noNums orc0_ok (f := 16) (fn := Try.f16) (code := f16_code) Try.func16 (by kernel_rfl) (drawsOk_of laidOut orc0_ok mixed (by kernel_rfl)) f16_un f16_un_ok [] (fun _ => rfl)
      (fun x ret => f16_eq k  ret x.1 x.2)

/- catchpole/catchpolelaw13.right -/
noncomputable def f18_I : PV → List SV × Obs := fun x => ([.val 24 x], [])
noncomputable def f18_D : List SV → Obs → Option (PV)
  | [.val 24 p1], [] => some p1
  | _, _ => none
theorem f18_D_ok (args : List SV) (B : Obs) (x : PV) (h : f18_D args B = some x) : f18_I x = (args, B) := by
  unfold f18_D at h
  split at h
  · injection h with h; subst h; rfl
  · cases h
noncomputable def f18_O : PV → Out := (fun y => ([.val 24 y], []))
noncomputable def f18_un : Out → Option (PV)
  | ([.val 24 y0], []) => some y0
  | _ => none
theorem f18_un_ok (o : Out) (y : PV) (h : f18_un o = some y) : o = f18_O y := by
  unfold f18_un at h
  split at h
  · injection h with h; subst h; rfl
  · cases h
noncomputable def f18_msk : Nat → Option (List Nat) := fun key =>  none
noncomputable def f18_C : Oracle := orc0
noncomputable def f18_E (k : Nat) : Env := { P := Try.prog, nilOwn := fun d => false, fldOwn := fun d i => false, ownPar := ownPars, ownRet := false, mask := f18_msk, fuel := k, C := f18_C }
noncomputable def f18_code : Code := Try.f18.body.getD .skip
noncomputable def f18_e (ret0 : PV → R) (p1 : PV) : R :=
  ret0 (PV.agg [(PV.int 5), (PV.int 0), (PV.list [p1])])

theorem f18_e_mem (k : Nat) (retF : PV → R) (p1 : PV) : exec (f18_E k) f18_code (endK (f18_E k) Try.f18 [] f18_un retF) ⟨[.val 24 p1, .undef, .undef, .undef, .undef, .undef], []⟩ = f18_e (fun y0 => retF y0) p1 := by kernel_rfl

noncomputable def f18_N (k : Nat) (ret0 : PV → R) (p1 : PV) : R :=
  f18_e ret0 p1
theorem f18_eq (k : Nat) (retF : PV → R) (p1 : PV) : exec (f18_E k) f18_code (endK (f18_E k) Try.f18 [] f18_un retF) ⟨[.val 24 p1, .undef, .undef, .undef, .undef, .undef], []⟩ = f18_N k (fun y0 => retF y0) p1 :=
  (f18_e_mem k retF p1)

noncomputable def G18 : Nat → PV → (PV → R) → R
  | 0, _, _ => none
  | k + 1, p1, ret0 => f18_N k  ret0 p1
theorem S18 : ∀ k, Snd Try.prog 18 f18_I f18_O (fun x ret => G18 k x (fun y0 => ret y0))
  | 0 => snd_none
  | k + 1 => snd_step (E := f18_E k ) rfl laidOut noNums orc0_ok (f := 18) (fn := Try.f18) (code := f18_code) Try.func18 (by kernel_rfl) (drawsOk_of laidOut orc0_ok mixed (by kernel_rfl)) f18_un f18_un_ok [] (fun _ => rfl)
      (fun x ret => f18_eq k  ret x)

/- catchpole/catchpolelaw13.left -/
noncomputable def f17_I : PV → List SV × Obs := fun x => ([.val 24 x], [])
noncomputable def f17_D : List SV → Obs → Option (PV)
  | [.val 24 p1], [] => some p1
  | _, _ => none
theorem f17_D_ok (args : List SV) (B : Obs) (x : PV) (h : f17_D args B = some x) : f17_I x = (args, B) := by
  unfold f17_D at h
  split at h
  · injection h with h; subst h; rfl
  · cases h
noncomputable def f17_O : PV → Out := (fun y => ([.val 24 y], []))
noncomputable def f17_un : Out → Option (PV)
  | ([.val 24 y0], []) => some y0
  | _ => none
theorem f17_un_ok (o : Out) (y : PV) (h : f17_un o = some y) : o = f17_O y := by
  unfold f17_un at h
  split at h
  · injection h with h; subst h; rfl
  · cases h
noncomputable def f17_msk : Nat → Option (List Nat) := fun key =>  none
noncomputable def f17_C : Oracle := orc0
noncomputable def f17_E (k : Nat) : Env := { P := Try.prog, nilOwn := fun d => false, fldOwn := fun d i => false, ownPar := ownPars, ownRet := false, mask := f17_msk, fuel := k, C := f17_C }
noncomputable def f17_code : Code := Try.f17.body.getD .skip
noncomputable def f17_e (ret0 : PV → R) (p1 : PV) : R :=
  ret0 (PV.agg [(PV.int 4), (PV.int 0), (PV.list [p1])])

theorem f17_e_mem (k : Nat) (retF : PV → R) (p1 : PV) : exec (f17_E k) f17_code (endK (f17_E k) Try.f17 [] f17_un retF) ⟨[.val 24 p1, .undef, .undef, .undef, .undef, .undef], []⟩ = f17_e (fun y0 => retF y0) p1 := by kernel_rfl

noncomputable def f17_N (k : Nat) (ret0 : PV → R) (p1 : PV) : R :=
  f17_e ret0 p1
theorem f17_eq (k : Nat) (retF : PV → R) (p1 : PV) : exec (f17_E k) f17_code (endK (f17_E k) Try.f17 [] f17_un retF) ⟨[.val 24 p1, .undef, .undef, .undef, .undef, .undef], []⟩ = f17_N k (fun y0 => retF y0) p1 :=
  (f17_e_mem k retF p1)

noncomputable def G17 : Nat → PV → (PV → R) → R
  | 0, _, _ => none
  | k + 1, p1, ret0 => f17_N k  ret0 p1
theorem S17 : ∀ k, Snd Try.prog 17 f17_I f17_O (fun x ret => G17 k x (fun y0 => ret y0))
  | 0 => snd_none
  | k + 1 => snd_step (E := f17_E k ) rfl laidOut noNums orc0_ok (f := 17) (fn := Try.f17) (code := f17_code) Try.func17 (by kernel_rfl) (drawsOk_of laidOut orc0_ok mixed (by kernel_rfl)) f17_un f17_un_ok [] (fun _ => rfl)
      (fun x ret => f17_eq k  ret x)

/- catchpole/value.Kids -/
noncomputable def f37_I : PV → List SV × Obs := fun x => ([.val 24 x], [])
noncomputable def f37_D : List SV → Obs → Option (PV)
  | [.val 24 p1], [] => some p1
  | _, _ => none
theorem f37_D_ok (args : List SV) (B : Obs) (x : PV) (h : f37_D args B = some x) : f37_I x = (args, B) := by
  unfold f37_D at h
  split at h
  · injection h with h; subst h; rfl
  · cases h
noncomputable def f37_O : PV → Out := (fun y => ([.val 22 y], []))
noncomputable def f37_un : Out → Option (PV)
  | ([.val 22 y0], []) => some y0
  | _ => none
theorem f37_un_ok (o : Out) (y : PV) (h : f37_un o = some y) : o = f37_O y := by
  unfold f37_un at h
  split at h
  · injection h with h; subst h; rfl
  · cases h
noncomputable def f37_msk : Nat → Option (List Nat) := fun key =>  none
noncomputable def f37_C : Oracle := orc0
noncomputable def f37_E (k : Nat) : Env := { P := Try.prog, nilOwn := fun d => false, fldOwn := fun d i => false, ownPar := ownPars, ownRet := false, mask := f37_msk, fuel := k, C := f37_C }
noncomputable def f37_code : Code := Try.f37.body.getD .skip
noncomputable def f37_e (ret0 : PV → R) (p1 : PV) : R :=
  bif (decide ((PV.num (PV.fld p1 0)) = (3 : Int))) then
    bif (decide ((0 : Int) ≤ (0 : Int)) && decide ((0 : Int) ≤ (if (List.length (PV.els (PV.fld p1 2)) : Int) < (2 : Int) then (List.length (PV.els (PV.fld p1 2)) : Int) else 2)) && decide ((if (List.length (PV.els (PV.fld p1 2)) : Int) < (2 : Int) then (List.length (PV.els (PV.fld p1 2)) : Int) else 2) ≤ (List.length (PV.els (PV.fld p1 2)) : Int))) then
      ret0 (PV.list (List.drop ((0 : Int)).toNat (List.take ((if (List.length (PV.els (PV.fld p1 2)) : Int) < (2 : Int) then (List.length (PV.els (PV.fld p1 2)) : Int) else 2)).toNat (PV.els (PV.fld p1 2)))))
    else none
  else bif (decide ((PV.num (PV.fld p1 0)) = (4 : Int))) then
    bif (decide ((0 : Int) ≤ (0 : Int)) && decide ((0 : Int) ≤ (if (List.length (PV.els (PV.fld p1 2)) : Int) < (1 : Int) then (List.length (PV.els (PV.fld p1 2)) : Int) else 1)) && decide ((if (List.length (PV.els (PV.fld p1 2)) : Int) < (1 : Int) then (List.length (PV.els (PV.fld p1 2)) : Int) else 1) ≤ (List.length (PV.els (PV.fld p1 2)) : Int))) then
      ret0 (PV.list (List.drop ((0 : Int)).toNat (List.take ((if (List.length (PV.els (PV.fld p1 2)) : Int) < (1 : Int) then (List.length (PV.els (PV.fld p1 2)) : Int) else 1)).toNat (PV.els (PV.fld p1 2)))))
    else none
  else bif (decide ((PV.num (PV.fld p1 0)) = (5 : Int))) then
    bif (decide ((0 : Int) ≤ (0 : Int)) && decide ((0 : Int) ≤ (if (List.length (PV.els (PV.fld p1 2)) : Int) < (1 : Int) then (List.length (PV.els (PV.fld p1 2)) : Int) else 1)) && decide ((if (List.length (PV.els (PV.fld p1 2)) : Int) < (1 : Int) then (List.length (PV.els (PV.fld p1 2)) : Int) else 1) ≤ (List.length (PV.els (PV.fld p1 2)) : Int))) then
      ret0 (PV.list (List.drop ((0 : Int)).toNat (List.take ((if (List.length (PV.els (PV.fld p1 2)) : Int) < (1 : Int) then (List.length (PV.els (PV.fld p1 2)) : Int) else 1)).toNat (PV.els (PV.fld p1 2)))))
    else none
  else bif (decide ((PV.num (PV.fld p1 0)) = (7 : Int))) then
    bif (decide ((0 : Int) ≤ (0 : Int)) && decide ((0 : Int) ≤ (if (List.length (PV.els (PV.fld p1 2)) : Int) < (1 : Int) then (List.length (PV.els (PV.fld p1 2)) : Int) else 1)) && decide ((if (List.length (PV.els (PV.fld p1 2)) : Int) < (1 : Int) then (List.length (PV.els (PV.fld p1 2)) : Int) else 1) ≤ (List.length (PV.els (PV.fld p1 2)) : Int))) then
      ret0 (PV.list (List.drop ((0 : Int)).toNat (List.take ((if (List.length (PV.els (PV.fld p1 2)) : Int) < (1 : Int) then (List.length (PV.els (PV.fld p1 2)) : Int) else 1)).toNat (PV.els (PV.fld p1 2)))))
    else none
  else bif (decide ((PV.num (PV.fld p1 0)) = (6 : Int))) then
    bif (decide ((0 : Int) ≤ (0 : Int)) && decide ((0 : Int) ≤ (if (List.length (PV.els (PV.fld p1 2)) : Int) < (List.length (PV.els (PV.fld p1 2)) : Int) then (List.length (PV.els (PV.fld p1 2)) : Int) else (List.length (PV.els (PV.fld p1 2)) : Int))) && decide ((if (List.length (PV.els (PV.fld p1 2)) : Int) < (List.length (PV.els (PV.fld p1 2)) : Int) then (List.length (PV.els (PV.fld p1 2)) : Int) else (List.length (PV.els (PV.fld p1 2)) : Int)) ≤ (List.length (PV.els (PV.fld p1 2)) : Int))) then
      ret0 (PV.list (List.drop ((0 : Int)).toNat (List.take ((if (List.length (PV.els (PV.fld p1 2)) : Int) < (List.length (PV.els (PV.fld p1 2)) : Int) then (List.length (PV.els (PV.fld p1 2)) : Int) else (List.length (PV.els (PV.fld p1 2)) : Int))).toNat (PV.els (PV.fld p1 2)))))
    else none
  else bif (decide ((0 : Int) ≤ (0 : Int)) && decide ((0 : Int) ≤ (if (List.length (PV.els (PV.fld p1 2)) : Int) < (0 : Int) then (List.length (PV.els (PV.fld p1 2)) : Int) else 0)) && decide ((if (List.length (PV.els (PV.fld p1 2)) : Int) < (0 : Int) then (List.length (PV.els (PV.fld p1 2)) : Int) else 0) ≤ (List.length (PV.els (PV.fld p1 2)) : Int))) then
    ret0 (PV.list (List.drop ((0 : Int)).toNat (List.take ((if (List.length (PV.els (PV.fld p1 2)) : Int) < (0 : Int) then (List.length (PV.els (PV.fld p1 2)) : Int) else 0)).toNat (PV.els (PV.fld p1 2)))))
  else none

theorem f37_e_mem (k : Nat) (retF : PV → R) (p1 : PV) : exec (f37_E k) f37_code (endK (f37_E k) Try.f37 [] f37_un retF) ⟨[.val 24 p1, .undef, .undef, .undef, .undef, .undef, .undef, .undef, .undef, .undef, .undef, .undef, .undef, .undef, .undef, .undef, .undef, .undef, .undef, .undef, .undef, .undef, .undef, .undef, .undef], []⟩ = f37_e (fun y0 => retF y0) p1 := by kernel_rfl

noncomputable def f37_N (k : Nat) (ret0 : PV → R) (p1 : PV) : R :=
  f37_e ret0 p1
theorem f37_eq (k : Nat) (retF : PV → R) (p1 : PV) : exec (f37_E k) f37_code (endK (f37_E k) Try.f37 [] f37_un retF) ⟨[.val 24 p1, .undef, .undef, .undef, .undef, .undef, .undef, .undef, .undef, .undef, .undef, .undef, .undef, .undef, .undef, .undef, .undef, .undef, .undef, .undef, .undef, .undef, .undef, .undef, .undef], []⟩ = f37_N k (fun y0 => retF y0) p1 :=
  (f37_e_mem k retF p1)

noncomputable def G37 : Nat → PV → (PV → R) → R
  | 0, _, _ => none
  | k + 1, p1, ret0 => f37_N k  ret0 p1
theorem S37 : ∀ k, Snd Try.prog 37 f37_I f37_O (fun x ret => G37 k x (fun y0 => ret y0))
  | 0 => snd_none
  | k + 1 => snd_step (E := f37_E k ) rfl laidOut noNums orc0_ok (f := 37) (fn := Try.f37) (code := f37_code) Try.func37 (by kernel_rfl) (drawsOk_of laidOut orc0_ok mixed (by kernel_rfl)) f37_un f37_un_ok [] (fun _ => rfl)
      (fun x ret => f37_eq k  ret x)

/- catchpole/value.flat -/
noncomputable def f47_I : PV × (List PV) → List SV × Obs := fun x => ([.own 47 2000000, .val 24 x.1], [(2000000, .row 5 x.2)])
noncomputable def f47_D : List SV → Obs → Option (PV × (List PV))
  | [.own 47 2000000, .val 24 p1], [(2000000, .row 5 l2)] => some (p1, l2)
  | _, _ => none
theorem f47_D_ok (args : List SV) (B : Obs) (x : PV × (List PV)) (h : f47_D args B = some x) : f47_I x = (args, B) := by
  unfold f47_D at h
  split at h
  · injection h with h; subst h; rfl
  · cases h
noncomputable def f47_O : (List PV) → Out := (fun y => ([.own 47 2000000], [(2000000, .row 5 y)]))
noncomputable def f47_un : Out → Option ((List PV))
  | ([.own 47 2000000], [(2000000, .row 5 y0)]) => some y0
  | _ => none
theorem f47_un_ok (o : Out) (y : (List PV)) (h : f47_un o = some y) : o = f47_O y := by
  unfold f47_un at h
  split at h
  · injection h with h; subst h; rfl
  · cases h
noncomputable def f47_msk : Nat → Option (List Nat) := fun key => bif key == 12 then some [0, 16, 17, 18] else none
noncomputable def f47_C (c37 : PV → (PV → R) → R) (c47 : PV → (List PV) → ((List PV) → R) → R) : Oracle := orc 37 f37_D f37_O (fun x ret => c37 x (fun y0 => ret y0)) <| orc 47 f47_D f47_O (fun x ret => c47 x.1 x.2 (fun y0 => ret y0)) <| orc0
noncomputable def f47_E (k : Nat) (c37 : PV → (PV → R) → R) (c47 : PV → (List PV) → ((List PV) → R) → R) : Env := { P := Try.prog, nilOwn := fun d => false, fldOwn := fun d i => false, ownPar := ownPars, ownRet := true, mask := f47_msk, fuel := k, C := f47_C c37 c47 }
noncomputable def f47_code : Code := Try.f47.body.getD .skip
noncomputable def f47_cw1 : Code := subC f47_code [1, 1, 0, 1, 0, 0]
noncomputable def f47_hw1_0 (p3 : PV) (n5 : Int) (l6 : List PV) : St := ⟨[.own 47 2000000, .dead, .dead, .dead, .dead, .dead, .dead, .dead, .dead, .dead, .dead, .dead, .dead, .dead, .dead, .dead, .val 22 p3, .int .i64 (List.length (PV.els p3) : Int), .int .i64 n5, .dead, .dead, .dead, .dead, .dead, .dead, .dead, .dead], [(2000000, .row 5 l6)]⟩
noncomputable def f47_w1A (k : Nat) (c37 : PV → (PV → R) → R) (c47 : PV → (List PV) → ((List PV) → R) → R) (retF : (List PV) → R) (p3 : PV) (n5 : Int) (l6 : List PV) : R := loopM (f47_E k c37 c47) f47_cw1 (kont (f47_E k c37 c47) f47_code [1, 1, 0, 1, 0] (endK (f47_E k c37 c47) Try.f47 [2000000] f47_un retF)) k (f47_hw1_0 p3 n5 l6)
noncomputable def f47_w1b0 (c37 : PV → (PV → R) → R) (c47 : PV → (List PV) → ((List PV) → R) → R) (ret0 : (List PV) → R) (next_w1_0 : Int → (List PV) → R) (p3 : PV) (n5 : Int) (l6 : List PV) : R :=
  bif (decide (n5 < (List.length (PV.els p3) : Int))) then
    bif (true && decide ((0 : Int) ≤ n5) && decide (n5 < (List.length (PV.els p3) : Int))) then
      c47 (List.getD (PV.els p3) (n5).toNat PV.nil) l6 fun l7 =>
      next_w1_0 (IntKind.wrap .i64 (n5 + (1 : Int))) l7
    else none
  else ret0 l6

theorem f47_w1b0_mem (k : Nat) (c37 : PV → (PV → R) → R) (c47 : PV → (List PV) → ((List PV) → R) → R) (retF : (List PV) → R) (NX_w1 : St → R) (p3 : PV) (n5 : Int) (l6 : List PV) : exec (f47_E k c37 c47) f47_cw1 (purgeK (f47_E k c37 c47) f47_cw1 (loopK NX_w1 (kont (f47_E k c37 c47) f47_code [1, 1, 0, 1, 0] (endK (f47_E k c37 c47) Try.f47 [2000000] f47_un retF)))) (f47_hw1_0 p3 n5 l6) = f47_w1b0 c37 c47 (fun y0 => retF y0) (fun n5 l6 => NX_w1 (f47_hw1_0 p3 n5 l6)) p3 n5 l6 := by kernel_rfl

noncomputable def f47_w1b0N (k : Nat) (c37 : PV → (PV → R) → R) (c47 : PV → (List PV) → ((List PV) → R) → R) (ret0 : (List PV) → R) (next_w1_0 : Int → (List PV) → R) (p3 : PV) (n5 : Int) (l6 : List PV) : R :=
  f47_w1b0 c37 c47 ret0 next_w1_0 p3 n5 l6
theorem f47_w1b0_eq (k : Nat) (c37 : PV → (PV → R) → R) (c47 : PV → (List PV) → ((List PV) → R) → R) (retF : (List PV) → R) (NX_w1 : St → R) (p3 : PV) (n5 : Int) (l6 : List PV) : exec (f47_E k c37 c47) f47_cw1 (purgeK (f47_E k c37 c47) f47_cw1 (loopK NX_w1 (kont (f47_E k c37 c47) f47_code [1, 1, 0, 1, 0] (endK (f47_E k c37 c47) Try.f47 [2000000] f47_un retF)))) (f47_hw1_0 p3 n5 l6) = f47_w1b0N k c37 c47 (fun y0 => retF y0) (fun n5 l6 => NX_w1 (f47_hw1_0 p3 n5 l6)) p3 n5 l6 :=
  (f47_w1b0_mem k c37 c47 retF NX_w1 p3 n5 l6)

noncomputable def f47_w1B (k : Nat) (c37 : PV → (PV → R) → R) (c47 : PV → (List PV) → ((List PV) → R) → R) (ret0 : (List PV) → R) (p3 : PV) (nx : Int × (List PV) → R) : Int × (List PV) → R := (fun s => f47_w1b0N k c37 c47 ret0 (fun n5 l6 => nx (n5, l6)) p3 s.1 s.2)
noncomputable def f47_w1N (k : Nat) (c37 : PV → (PV → R) → R) (c47 : PV → (List PV) → ((List PV) → R) → R) (ret0 : (List PV) → R) (p3 : PV) (n5 : Int) (l6 : List PV) : R := loopR (f47_w1B k c37 c47 ret0 p3) k (n5, l6)
theorem f47_w1_eq (k : Nat) (c37 : PV → (PV → R) → R) (c47 : PV → (List PV) → ((List PV) → R) → R) (retF : (List PV) → R) (p3 : PV) (n5 : Int) (l6 : List PV) : f47_w1A k c37 c47 retF p3 n5 l6 = f47_w1N k c37 c47 (fun y0 => retF y0) p3 n5 l6 :=
  Eq.mp (by kernel_rfl) (loop_sim (E := (f47_E k c37 c47)) (c := f47_cw1) (K := (kont (f47_E k c37 c47) f47_code [1, 1, 0, 1, 0] (endK (f47_E k c37 c47) Try.f47 [2000000] f47_un retF))) (S := Int × (List PV)) (fun s => f47_hw1_0 p3 s.1 s.2) (f47_w1B k c37 c47 (fun y0 => retF y0) p3) (fun NX s => by
    exact Eq.mp (by kernel_rfl) (f47_w1b0_eq k c37 c47 retF NX p3 s.1 s.2)) k (n5, l6))

noncomputable def f47_cw2 : Code := subC f47_code [1, 1, 0, 1, 0, 0]
noncomputable def f47_hw2_0 (p8 : PV) (n10 : Int) (l11 : List PV) : St := ⟨[.own 47 2000000, .dead, .dead, .dead, .dead, .dead, .dead, .dead, .dead, .dead, .dead, .dead, .dead, .dead, .dead, .dead, .val 22 p8, .int .i64 (List.length (PV.els p8) : Int), .int .i64 n10, .dead, .dead, .dead, .dead, .dead, .dead, .dead, .dead], [(2000000, .row 5 l11)]⟩
noncomputable def f47_w2A (k : Nat) (c37 : PV → (PV → R) → R) (c47 : PV → (List PV) → ((List PV) → R) → R) (retF : (List PV) → R) (p8 : PV) (n10 : Int) (l11 : List PV) : R := loopM (f47_E k c37 c47) f47_cw2 (kont (f47_E k c37 c47) f47_code [1, 1, 0, 1, 0] (endK (f47_E k c37 c47) Try.f47 [2000000] f47_un retF)) k (f47_hw2_0 p8 n10 l11)
noncomputable def f47_w2b0 (c37 : PV → (PV → R) → R) (c47 : PV → (List PV) → ((List PV) → R) → R) (ret0 : (List PV) → R) (next_w2_0 : Int → (List PV) → R) (p8 : PV) (n10 : Int) (l11 : List PV) : R :=
  bif (decide (n10 < (List.length (PV.els p8) : Int))) then
    bif (true && decide ((0 : Int) ≤ n10) && decide (n10 < (List.length (PV.els p8) : Int))) then
      c47 (List.getD (PV.els p8) (n10).toNat PV.nil) l11 fun l12 =>
      next_w2_0 (IntKind.wrap .i64 (n10 + (1 : Int))) l12
    else none
  else ret0 l11

theorem f47_w2b0_mem (k : Nat) (c37 : PV → (PV → R) → R) (c47 : PV → (List PV) → ((List PV) → R) → R) (retF : (List PV) → R) (NX_w2 : St → R) (p8 : PV) (n10 : Int) (l11 : List PV) : exec (f47_E k c37 c47) f47_cw2 (purgeK (f47_E k c37 c47) f47_cw2 (loopK NX_w2 (kont (f47_E k c37 c47) f47_code [1, 1, 0, 1, 0] (endK (f47_E k c37 c47) Try.f47 [2000000] f47_un retF)))) (f47_hw2_0 p8 n10 l11) = f47_w2b0 c37 c47 (fun y0 => retF y0) (fun n10 l11 => NX_w2 (f47_hw2_0 p8 n10 l11)) p8 n10 l11 := by kernel_rfl

noncomputable def f47_w2b0N (k : Nat) (c37 : PV → (PV → R) → R) (c47 : PV → (List PV) → ((List PV) → R) → R) (ret0 : (List PV) → R) (next_w2_0 : Int → (List PV) → R) (p8 : PV) (n10 : Int) (l11 : List PV) : R :=
  f47_w2b0 c37 c47 ret0 next_w2_0 p8 n10 l11
theorem f47_w2b0_eq (k : Nat) (c37 : PV → (PV → R) → R) (c47 : PV → (List PV) → ((List PV) → R) → R) (retF : (List PV) → R) (NX_w2 : St → R) (p8 : PV) (n10 : Int) (l11 : List PV) : exec (f47_E k c37 c47) f47_cw2 (purgeK (f47_E k c37 c47) f47_cw2 (loopK NX_w2 (kont (f47_E k c37 c47) f47_code [1, 1, 0, 1, 0] (endK (f47_E k c37 c47) Try.f47 [2000000] f47_un retF)))) (f47_hw2_0 p8 n10 l11) = f47_w2b0N k c37 c47 (fun y0 => retF y0) (fun n10 l11 => NX_w2 (f47_hw2_0 p8 n10 l11)) p8 n10 l11 :=
  (f47_w2b0_mem k c37 c47 retF NX_w2 p8 n10 l11)

noncomputable def f47_w2B (k : Nat) (c37 : PV → (PV → R) → R) (c47 : PV → (List PV) → ((List PV) → R) → R) (ret0 : (List PV) → R) (p8 : PV) (nx : Int × (List PV) → R) : Int × (List PV) → R := (fun s => f47_w2b0N k c37 c47 ret0 (fun n10 l11 => nx (n10, l11)) p8 s.1 s.2)
noncomputable def f47_w2N (k : Nat) (c37 : PV → (PV → R) → R) (c47 : PV → (List PV) → ((List PV) → R) → R) (ret0 : (List PV) → R) (p8 : PV) (n10 : Int) (l11 : List PV) : R := loopR (f47_w2B k c37 c47 ret0 p8) k (n10, l11)
theorem f47_w2_eq (k : Nat) (c37 : PV → (PV → R) → R) (c47 : PV → (List PV) → ((List PV) → R) → R) (retF : (List PV) → R) (p8 : PV) (n10 : Int) (l11 : List PV) : f47_w2A k c37 c47 retF p8 n10 l11 = f47_w2N k c37 c47 (fun y0 => retF y0) p8 n10 l11 :=
  Eq.mp (by kernel_rfl) (loop_sim (E := (f47_E k c37 c47)) (c := f47_cw2) (K := (kont (f47_E k c37 c47) f47_code [1, 1, 0, 1, 0] (endK (f47_E k c37 c47) Try.f47 [2000000] f47_un retF))) (S := Int × (List PV)) (fun s => f47_hw2_0 p8 s.1 s.2) (f47_w2B k c37 c47 (fun y0 => retF y0) p8) (fun NX s => by
    exact Eq.mp (by kernel_rfl) (f47_w2b0_eq k c37 c47 retF NX p8 s.1 s.2)) k (n10, l11))

noncomputable def f47_e (c37 : PV → (PV → R) → R) (c47 : PV → (List PV) → ((List PV) → R) → R) (ret0 : (List PV) → R) (w1 : PV → Int → (List PV) → R) (w2 : PV → Int → (List PV) → R) (p1 : PV) (l2 : List PV) : R :=
  bif (decide ((PV.num (PV.fld p1 0)) = (2 : Int))) then
    bif (true && roomy (List.length l2 + List.length [(PV.int (PV.num (PV.fld p1 1)))]) 1) then
      c37 p1 fun p3 =>
      w1 p3 0 (l2 ++ [(PV.int (PV.num (PV.fld p1 1)))])
    else none
  else c37 p1 fun p8 =>
  w2 p8 0 l2

theorem f47_e_mem (k : Nat) (c37 : PV → (PV → R) → R) (c47 : PV → (List PV) → ((List PV) → R) → R) (retF : (List PV) → R) (p1 : PV) (l2 : List PV) : exec (f47_E k c37 c47) f47_code (endK (f47_E k c37 c47) Try.f47 [2000000] f47_un retF) ⟨[.own 47 2000000, .val 24 p1, .undef, .undef, .undef, .undef, .undef, .undef, .undef, .undef, .undef, .undef, .undef, .undef, .undef, .undef, .undef, .undef, .undef, .undef, .undef, .undef, .undef, .undef, .undef, .undef, .undef], [(2000000, .row 5 l2)]⟩ = f47_e c37 c47 (fun y0 => retF y0) (fun p3 n5 l6 => f47_w1A k c37 c47 retF p3 n5 l6) (fun p8 n10 l11 => f47_w2A k c37 c47 retF p8 n10 l11) p1 l2 := by kernel_rfl

noncomputable def f47_N (k : Nat) (c37 : PV → (PV → R) → R) (c47 : PV → (List PV) → ((List PV) → R) → R) (ret0 : (List PV) → R) (p1 : PV) (l2 : List PV) : R :=
  f47_e c37 c47 ret0 (fun p3 n5 l6 => f47_w1N k c37 c47 ret0 p3 n5 l6) (fun p8 n10 l11 => f47_w2N k c37 c47 ret0 p8 n10 l11) p1 l2
theorem f47_eq (k : Nat) (c37 : PV → (PV → R) → R) (c47 : PV → (List PV) → ((List PV) → R) → R) (retF : (List PV) → R) (p1 : PV) (l2 : List PV) : exec (f47_E k c37 c47) f47_code (endK (f47_E k c37 c47) Try.f47 [2000000] f47_un retF) ⟨[.own 47 2000000, .val 24 p1, .undef, .undef, .undef, .undef, .undef, .undef, .undef, .undef, .undef, .undef, .undef, .undef, .undef, .undef, .undef, .undef, .undef, .undef, .undef, .undef, .undef, .undef, .undef, .undef, .undef], [(2000000, .row 5 l2)]⟩ = f47_N k c37 c47 (fun y0 => retF y0) p1 l2 :=
  (f47_e_mem k c37 c47 retF p1 l2).trans (by rw [show (fun p3 n5 l6 => f47_w1A k c37 c47 retF p3 n5 l6) = (fun p3 n5 l6 => f47_w1N k c37 c47 (fun y0 => retF y0) p3 n5 l6) from funext fun p3 => funext fun n5 => funext fun l6 => f47_w1_eq k c37 c47 retF p3 n5 l6, show (fun p8 n10 l11 => f47_w2A k c37 c47 retF p8 n10 l11) = (fun p8 n10 l11 => f47_w2N k c37 c47 (fun y0 => retF y0) p8 n10 l11) from funext fun p8 => funext fun n10 => funext fun l11 => f47_w2_eq k c37 c47 retF p8 n10 l11]; rfl)

noncomputable def G47 : Nat → PV → (List PV) → ((List PV) → R) → R
  | 0, _, _, _ => none
  | k + 1, p1, l2, ret0 => f47_N k (G37 k) (G47 k) ret0 p1 l2
theorem S47 : ∀ k, Snd Try.prog 47 f47_I f47_O (fun x ret => G47 k x.1 x.2 (fun y0 => ret y0))
  | 0 => snd_none
  | k + 1 => snd_step (E := f47_E k (G37 k) (G47 k)) rfl laidOut noNums (orc_ok (S37 k) f37_D_ok (orc_ok (S47 k) f47_D_ok orc0_ok)) (f := 47) (fn := Try.f47) (code := f47_code) Try.func47 (by kernel_rfl) (drawsOk_of laidOut (orc_ok (S37 k) f37_D_ok (orc_ok (S47 k) f47_D_ok orc0_ok)) mixed (by kernel_rfl)) f47_un f47_un_ok [2000000] (fun _ => rfl)
      (fun x ret => f47_eq k (G37 k) (G47 k) ret x.1 x.2)

/- catchpole/value.Flat -/
noncomputable def f38_I : PV → List SV × Obs := fun x => ([.val 24 x], [])
noncomputable def f38_D : List SV → Obs → Option (PV)
  | [.val 24 p1], [] => some p1
  | _, _ => none
theorem f38_D_ok (args : List SV) (B : Obs) (x : PV) (h : f38_D args B = some x) : f38_I x = (args, B) := by
  unfold f38_D at h
  split at h
  · injection h with h; subst h; rfl
  · cases h
noncomputable def f38_O : PV → Out := (fun y => ([.val 47 y], []))
noncomputable def f38_un : Out → Option (PV)
  | ([.val 47 y0], []) => some y0
  | _ => none
theorem f38_un_ok (o : Out) (y : PV) (h : f38_un o = some y) : o = f38_O y := by
  unfold f38_un at h
  split at h
  · injection h with h; subst h; rfl
  · cases h
noncomputable def f38_msk : Nat → Option (List Nat) := fun key =>  none
noncomputable def f38_C (c47 : PV → (List PV) → ((List PV) → R) → R) : Oracle := orc 47 f47_D f47_O (fun x ret => c47 x.1 x.2 (fun y0 => ret y0)) <| orc0
noncomputable def f38_E (k : Nat) (c47 : PV → (List PV) → ((List PV) → R) → R) : Env := { P := Try.prog, nilOwn := fun d => false, fldOwn := fun d i => false, ownPar := ownPars, ownRet := false, mask := f38_msk, fuel := k, C := f38_C c47 }
noncomputable def f38_code : Code := Try.f38.body.getD .skip
noncomputable def f38_e (c47 : PV → (List PV) → ((List PV) → R) → R) (ret0 : PV → R) (p1 : PV) : R :=
  c47 p1 [] fun l2 =>
  ret0 (PV.list l2)

theorem f38_e_mem (k : Nat) (c47 : PV → (List PV) → ((List PV) → R) → R) (retF : PV → R) (p1 : PV) : exec (f38_E k c47) f38_code (endK (f38_E k c47) Try.f38 [] f38_un retF) ⟨[.val 24 p1, .undef, .undef, .undef, .undef], []⟩ = f38_e c47 (fun y0 => retF y0) p1 := by kernel_rfl

noncomputable def f38_N (k : Nat) (c47 : PV → (List PV) → ((List PV) → R) → R) (ret0 : PV → R) (p1 : PV) : R :=
  f38_e c47 ret0 p1
theorem f38_eq (k : Nat) (c47 : PV → (List PV) → ((List PV) → R) → R) (retF : PV → R) (p1 : PV) : exec (f38_E k c47) f38_code (endK (f38_E k c47) Try.f38 [] f38_un retF) ⟨[.val 24 p1, .undef, .undef, .undef, .undef], []⟩ = f38_N k c47 (fun y0 => retF y0) p1 :=
  (f38_e_mem k c47 retF p1)

noncomputable def G38 : Nat → PV → (PV → R) → R
  | 0, _, _ => none
  | k + 1, p1, ret0 => f38_N k (G47 k) ret0 p1
theorem S38 : ∀ k, Snd Try.prog 38 f38_I f38_O (fun x ret => G38 k x (fun y0 => ret y0))
  | 0 => snd_none
  | k + 1 => snd_step (E := f38_E k (G47 k)) rfl laidOut noNums (orc_ok (S47 k) f47_D_ok orc0_ok) (f := 38) (fn := Try.f38) (code := f38_code) Try.func38 (by kernel_rfl) (drawsOk_of laidOut (orc_ok (S47 k) f47_D_ok orc0_ok) mixed (by kernel_rfl)) f38_un f38_un_ok [] (fun _ => rfl)
      (fun x ret => f38_eq k (G47 k) ret x)

/- catchpole/value.Len -/
noncomputable def f15_I : PV → List SV × Obs := fun x => ([.val 24 x], [])
noncomputable def f15_D : List SV → Obs → Option (PV)
  | [.val 24 p1], [] => some p1
  | _, _ => none
theorem f15_D_ok (args : List SV) (B : Obs) (x : PV) (h : f15_D args B = some x) : f15_I x = (args, B) := by
  unfold f15_D at h
  split at h
  · injection h with h; subst h; rfl
  · cases h
noncomputable def f15_O : Int → Out := (fun y => ([.int .i64 y], []))
noncomputable def f15_un : Out → Option (Int)
  | ([.int .i64 y0], []) => some y0
  | _ => none
theorem f15_un_ok (o : Out) (y : Int) (h : f15_un o = some y) : o = f15_O y := by
  unfold f15_un at h
  split at h
  · injection h with h; subst h; rfl
  · cases h
noncomputable def f15_msk : Nat → Option (List Nat) := fun key =>  none
noncomputable def f15_C (c38 : PV → (PV → R) → R) : Oracle := orc 38 f38_D f38_O (fun x ret => c38 x (fun y0 => ret y0)) <| orc0
noncomputable def f15_E (k : Nat) (c38 : PV → (PV → R) → R) : Env := { P := Try.prog, nilOwn := fun d => false, fldOwn := fun d i => false, ownPar := ownPars, ownRet := false, mask := f15_msk, fuel := k, C := f15_C c38 }
noncomputable def f15_code : Code := Try.f15.body.getD .skip
noncomputable def f15_e (c38 : PV → (PV → R) → R) (ret0 : Int → R) (p1 : PV) : R :=
  c38 p1 fun p2 =>
  ret0 (List.length (PV.els p2) : Int)

theorem f15_e_mem (k : Nat) (c38 : PV → (PV → R) → R) (retF : Int → R) (p1 : PV) : exec (f15_E k c38) f15_code (endK (f15_E k c38) Try.f15 [] f15_un retF) ⟨[.val 24 p1, .undef, .undef, .undef, .undef, .undef], []⟩ = f15_e c38 (fun y0 => retF y0) p1 := by kernel_rfl

noncomputable def f15_N (k : Nat) (c38 : PV → (PV → R) → R) (ret0 : Int → R) (p1 : PV) : R :=
  f15_e c38 ret0 p1
theorem f15_eq (k : Nat) (c38 : PV → (PV → R) → R) (retF : Int → R) (p1 : PV) : exec (f15_E k c38) f15_code (endK (f15_E k c38) Try.f15 [] f15_un retF) ⟨[.val 24 p1, .undef, .undef, .undef, .undef, .undef], []⟩ = f15_N k c38 (fun y0 => retF y0) p1 :=
  (f15_e_mem k c38 retF p1)

noncomputable def G15 : Nat → PV → (Int → R) → R
  | 0, _, _ => none
  | k + 1, p1, ret0 => f15_N k (G38 k) ret0 p1
theorem S15 : ∀ k, Snd Try.prog 15 f15_I f15_O (fun x ret => G15 k x (fun y0 => ret y0))
  | 0 => snd_none
  | k + 1 => snd_step (E := f15_E k (G38 k)) rfl laidOut noNums (orc_ok (S38 k) f38_D_ok orc0_ok) (f := 15) (fn := Try.f15) (code := f15_code) Try.func15 (by kernel_rfl) (drawsOk_of laidOut (orc_ok (S38 k) f38_D_ok orc0_ok) mixed (by kernel_rfl)) f15_un f15_un_ok [] (fun _ => rfl)
      (fun x ret => f15_eq k (G38 k) ret x)

/- cmp.isNaN[int] -/
noncomputable def f45_I : Int → List SV × Obs := fun x => ([.int .i64 x], [])
noncomputable def f45_D : List SV → Obs → Option (Int)
  | [.int .i64 n1], [] => some n1
  | _, _ => none
theorem f45_D_ok (args : List SV) (B : Obs) (x : Int) (h : f45_D args B = some x) : f45_I x = (args, B) := by
  unfold f45_D at h
  split at h
  · injection h with h; subst h; rfl
  · cases h
noncomputable def f45_O : Bool → Out := (fun y => ([.bool y], []))
noncomputable def f45_un : Out → Option (Bool)
  | ([.bool y0], []) => some y0
  | _ => none
theorem f45_un_ok (o : Out) (y : Bool) (h : f45_un o = some y) : o = f45_O y := by
  unfold f45_un at h
  split at h
  · injection h with h; subst h; rfl
  · cases h
noncomputable def f45_msk : Nat → Option (List Nat) := fun key =>  none
noncomputable def f45_C : Oracle := orc0
noncomputable def f45_E (k : Nat) : Env := { P := Try.prog, nilOwn := fun d => false, fldOwn := fun d i => false, ownPar := ownPars, ownRet := false, mask := f45_msk, fuel := k, C := f45_C }
noncomputable def f45_code : Code := Try.f45.body.getD .skip
noncomputable def f45_e (ret0 : Bool → R) (n1 : Int) : R :=
  ret0 (!(decide (n1 = n1)))

theorem f45_e_mem (k : Nat) (retF : Bool → R) (n1 : Int) : exec (f45_E k) f45_code (endK (f45_E k) Try.f45 [] f45_un retF) ⟨[.int .i64 n1, .undef, .undef, .undef, .undef, .undef], []⟩ = f45_e (fun y0 => retF y0) n1 := by kernel_rfl

noncomputable def f45_N (k : Nat) (ret0 : Bool → R) (n1 : Int) : R :=
  f45_e ret0 n1
theorem f45_eq (k : Nat) (retF : Bool → R) (n1 : Int) : exec (f45_E k) f45_code (endK (f45_E k) Try.f45 [] f45_un retF) ⟨[.int .i64 n1, .undef, .undef, .undef, .undef, .undef], []⟩ = f45_N k (fun y0 => retF y0) n1 :=
  (f45_e_mem k retF n1)

noncomputable def G45 : Nat → Int → (Bool → R) → R
  | 0, _, _ => none
  | k + 1, n1, ret0 => f45_N k  ret0 n1
theorem S45 : ∀ k, Snd Try.prog 45 f45_I f45_O (fun x ret => G45 k x (fun y0 => ret y0))
  | 0 => snd_none
  | k + 1 => snd_step (E := f45_E k ) rfl laidOut noNums orc0_ok (f := 45) (fn := Try.f45) (code := f45_code) Try.func45 (by kernel_rfl) (drawsOk_of laidOut orc0_ok mixed (by kernel_rfl)) f45_un f45_un_ok [] (fun _ => rfl)
      (fun x ret => f45_eq k  ret x)

/- cmp.Compare[int] -/
noncomputable def f35_I : Int × Int → List SV × Obs := fun x => ([.int .i64 x.1, .int .i64 x.2], [])
noncomputable def f35_D : List SV → Obs → Option (Int × Int)
  | [.int .i64 n1, .int .i64 n2], [] => some (n1, n2)
  | _, _ => none
theorem f35_D_ok (args : List SV) (B : Obs) (x : Int × Int) (h : f35_D args B = some x) : f35_I x = (args, B) := by
  unfold f35_D at h
  split at h
  · injection h with h; subst h; rfl
  · cases h
noncomputable def f35_O : Int → Out := (fun y => ([.int .i64 y], []))
noncomputable def f35_un : Out → Option (Int)
  | ([.int .i64 y0], []) => some y0
  | _ => none
theorem f35_un_ok (o : Out) (y : Int) (h : f35_un o = some y) : o = f35_O y := by
  unfold f35_un at h
  split at h
  · injection h with h; subst h; rfl
  · cases h
noncomputable def f35_msk : Nat → Option (List Nat) := fun key =>  none
noncomputable def f35_C (c45 : Int → (Bool → R) → R) : Oracle := orc 45 f45_D f45_O (fun x ret => c45 x (fun y0 => ret y0)) <| orc0
noncomputable def f35_E (k : Nat) (c45 : Int → (Bool → R) → R) : Env := { P := Try.prog, nilOwn := fun d => false, fldOwn := fun d i => false, ownPar := ownPars, ownRet := false, mask := f35_msk, fuel := k, C := f35_C c45 }
noncomputable def f35_code : Code := Try.f35.body.getD .skip
noncomputable def f35_e (c45 : Int → (Bool → R) → R) (ret0 : Int → R) (n1 : Int) (n2 : Int) : R :=
  c45 n1 fun b3 =>
  c45 n2 fun b4 =>
  bif b3 then
    bif b4 then
      ret0 0
    else ret0 (-1)
  else bif b4 then
    ret0 1
  else bif (decide (n1 < n2)) then
    ret0 (-1)
  else bif (decide (n2 < n1)) then
    ret0 1
  else ret0 0

theorem f35_e_mem (k : Nat) (c45 : Int → (Bool → R) → R) (retF : Int → R) (n1 : Int) (n2 : Int) : exec (f35_E k c45) f35_code (endK (f35_E k c45) Try.f35 [] f35_un retF) ⟨[.int .i64 n1, .int .i64 n2, .undef, .undef, .undef, .undef, .undef, .undef, .undef, .undef, .undef, .undef, .undef, .undef, .undef, .undef, .undef, .undef, .undef, .undef], []⟩ = f35_e c45 (fun y0 => retF y0) n1 n2 := by kernel_rfl

noncomputable def f35_N (k : Nat) (c45 : Int → (Bool → R) → R) (ret0 : Int → R) (n1 : Int) (n2 : Int) : R :=
  f35_e c45 ret0 n1 n2
theorem f35_eq (k : Nat) (c45 : Int → (Bool → R) → R) (retF : Int → R) (n1 : Int) (n2 : Int) : exec (f35_E k c45) f35_code (endK (f35_E k c45) Try.f35 [] f35_un retF) ⟨[.int .i64 n1, .int .i64 n2, .undef, .undef, .undef, .undef, .undef, .undef, .undef, .undef, .undef, .undef, .undef, .undef, .undef, .undef, .undef, .undef, .undef, .undef], []⟩ = f35_N k c45 (fun y0 => retF y0) n1 n2 :=
  (f35_e_mem k c45 retF n1 n2)

noncomputable def G35 : Nat → Int → Int → (Int → R) → R
  | 0, _, _, _ => none
  | k + 1, n1, n2, ret0 => f35_N k (G45 k) ret0 n1 n2
theorem S35 : ∀ k, Snd Try.prog 35 f35_I f35_O (fun x ret => G35 k x.1 x.2 (fun y0 => ret y0))
  | 0 => snd_none
  | k + 1 => snd_step (E := f35_E k (G45 k)) rfl laidOut noNums (orc_ok (S45 k) f45_D_ok orc0_ok) (f := 35) (fn := Try.f35) (code := f35_code) Try.func35 (by kernel_rfl) (drawsOk_of laidOut (orc_ok (S45 k) f45_D_ok orc0_ok) mixed (by kernel_rfl)) f35_un f35_un_ok [] (fun _ => rfl)
      (fun x ret => f35_eq k (G45 k) ret x.1 x.2)

/- cmp.isNaN[byte] -/
noncomputable def f46_I : Int → List SV × Obs := fun x => ([.int .u8 x], [])
noncomputable def f46_D : List SV → Obs → Option (Int)
  | [.int .u8 n1], [] => some n1
  | _, _ => none
theorem f46_D_ok (args : List SV) (B : Obs) (x : Int) (h : f46_D args B = some x) : f46_I x = (args, B) := by
  unfold f46_D at h
  split at h
  · injection h with h; subst h; rfl
  · cases h
noncomputable def f46_O : Bool → Out := (fun y => ([.bool y], []))
noncomputable def f46_un : Out → Option (Bool)
  | ([.bool y0], []) => some y0
  | _ => none
theorem f46_un_ok (o : Out) (y : Bool) (h : f46_un o = some y) : o = f46_O y := by
  unfold f46_un at h
  split at h
  · injection h with h; subst h; rfl
  · cases h
noncomputable def f46_msk : Nat → Option (List Nat) := fun key =>  none
noncomputable def f46_C : Oracle := orc0
noncomputable def f46_E (k : Nat) : Env := { P := Try.prog, nilOwn := fun d => false, fldOwn := fun d i => false, ownPar := ownPars, ownRet := false, mask := f46_msk, fuel := k, C := f46_C }
noncomputable def f46_code : Code := Try.f46.body.getD .skip
noncomputable def f46_e (ret0 : Bool → R) (n1 : Int) : R :=
  ret0 (!(decide (n1 = n1)))

theorem f46_e_mem (k : Nat) (retF : Bool → R) (n1 : Int) : exec (f46_E k) f46_code (endK (f46_E k) Try.f46 [] f46_un retF) ⟨[.int .u8 n1, .undef, .undef, .undef, .undef, .undef], []⟩ = f46_e (fun y0 => retF y0) n1 := by kernel_rfl

noncomputable def f46_N (k : Nat) (ret0 : Bool → R) (n1 : Int) : R :=
  f46_e ret0 n1
theorem f46_eq (k : Nat) (retF : Bool → R) (n1 : Int) : exec (f46_E k) f46_code (endK (f46_E k) Try.f46 [] f46_un retF) ⟨[.int .u8 n1, .undef, .undef, .undef, .undef, .undef], []⟩ = f46_N k (fun y0 => retF y0) n1 :=
  (f46_e_mem k retF n1)

noncomputable def G46 : Nat → Int → (Bool → R) → R
  | 0, _, _ => none
  | k + 1, n1, ret0 => f46_N k  ret0 n1
theorem S46 : ∀ k, Snd Try.prog 46 f46_I f46_O (fun x ret => G46 k x (fun y0 => ret y0))
  | 0 => snd_none
  | k + 1 => snd_step (E := f46_E k ) rfl laidOut noNums orc0_ok (f := 46) (fn := Try.f46) (code := f46_code) Try.func46 (by kernel_rfl) (drawsOk_of laidOut orc0_ok mixed (by kernel_rfl)) f46_un f46_un_ok [] (fun _ => rfl)
      (fun x ret => f46_eq k  ret x)

/- cmp.Compare[byte] -/
noncomputable def f36_I : Int × Int → List SV × Obs := fun x => ([.int .u8 x.1, .int .u8 x.2], [])
noncomputable def f36_D : List SV → Obs → Option (Int × Int)
  | [.int .u8 n1, .int .u8 n2], [] => some (n1, n2)
  | _, _ => none
theorem f36_D_ok (args : List SV) (B : Obs) (x : Int × Int) (h : f36_D args B = some x) : f36_I x = (args, B) := by
  unfold f36_D at h
  split at h
  · injection h with h; subst h; rfl
  · cases h
noncomputable def f36_O : Int → Out := (fun y => ([.int .i64 y], []))
noncomputable def f36_un : Out → Option (Int)
  | ([.int .i64 y0], []) => some y0
  | _ => none
theorem f36_un_ok (o : Out) (y : Int) (h : f36_un o = some y) : o = f36_O y := by
  unfold f36_un at h
  split at h
  · injection h with h; subst h; rfl
  · cases h
noncomputable def f36_msk : Nat → Option (List Nat) := fun key =>  none
noncomputable def f36_C (c46 : Int → (Bool → R) → R) : Oracle := orc 46 f46_D f46_O (fun x ret => c46 x (fun y0 => ret y0)) <| orc0
noncomputable def f36_E (k : Nat) (c46 : Int → (Bool → R) → R) : Env := { P := Try.prog, nilOwn := fun d => false, fldOwn := fun d i => false, ownPar := ownPars, ownRet := false, mask := f36_msk, fuel := k, C := f36_C c46 }
noncomputable def f36_code : Code := Try.f36.body.getD .skip
noncomputable def f36_e (c46 : Int → (Bool → R) → R) (ret0 : Int → R) (n1 : Int) (n2 : Int) : R :=
  c46 n1 fun b3 =>
  c46 n2 fun b4 =>
  bif b3 then
    bif b4 then
      ret0 0
    else ret0 (-1)
  else bif b4 then
    ret0 1
  else bif (decide (n1 < n2)) then
    ret0 (-1)
  else bif (decide (n2 < n1)) then
    ret0 1
  else ret0 0

theorem f36_e_mem (k : Nat) (c46 : Int → (Bool → R) → R) (retF : Int → R) (n1 : Int) (n2 : Int) : exec (f36_E k c46) f36_code (endK (f36_E k c46) Try.f36 [] f36_un retF) ⟨[.int .u8 n1, .int .u8 n2, .undef, .undef, .undef, .undef, .undef, .undef, .undef, .undef, .undef, .undef, .undef, .undef, .undef, .undef, .undef, .undef, .undef, .undef], []⟩ = f36_e c46 (fun y0 => retF y0) n1 n2 := by kernel_rfl

noncomputable def f36_N (k : Nat) (c46 : Int → (Bool → R) → R) (ret0 : Int → R) (n1 : Int) (n2 : Int) : R :=
  f36_e c46 ret0 n1 n2
theorem f36_eq (k : Nat) (c46 : Int → (Bool → R) → R) (retF : Int → R) (n1 : Int) (n2 : Int) : exec (f36_E k c46) f36_code (endK (f36_E k c46) Try.f36 [] f36_un retF) ⟨[.int .u8 n1, .int .u8 n2, .undef, .undef, .undef, .undef, .undef, .undef, .undef, .undef, .undef, .undef, .undef, .undef, .undef, .undef, .undef, .undef, .undef, .undef], []⟩ = f36_N k c46 (fun y0 => retF y0) n1 n2 :=
  (f36_e_mem k c46 retF n1 n2)

noncomputable def G36 : Nat → Int → Int → (Int → R) → R
  | 0, _, _, _ => none
  | k + 1, n1, n2, ret0 => f36_N k (G46 k) ret0 n1 n2
theorem S36 : ∀ k, Snd Try.prog 36 f36_I f36_O (fun x ret => G36 k x.1 x.2 (fun y0 => ret y0))
  | 0 => snd_none
  | k + 1 => snd_step (E := f36_E k (G46 k)) rfl laidOut noNums (orc_ok (S46 k) f46_D_ok orc0_ok) (f := 36) (fn := Try.f36) (code := f36_code) Try.func36 (by kernel_rfl) (drawsOk_of laidOut (orc_ok (S46 k) f46_D_ok orc0_ok) mixed (by kernel_rfl)) f36_un f36_un_ok [] (fun _ => rfl)
      (fun x ret => f36_eq k (G46 k) ret x.1 x.2)

/- catchpole/rank.Cmp -/
noncomputable def f14_I : PV × PV → List SV × Obs := fun x => ([.val 24 x.1, .val 24 x.2], [])
noncomputable def f14_D : List SV → Obs → Option (PV × PV)
  | [.val 24 p1, .val 24 p2], [] => some (p1, p2)
  | _, _ => none
theorem f14_D_ok (args : List SV) (B : Obs) (x : PV × PV) (h : f14_D args B = some x) : f14_I x = (args, B) := by
  unfold f14_D at h
  split at h
  · injection h with h; subst h; rfl
  · cases h
noncomputable def f14_O : Int → Out := (fun y => ([.int .i64 y], []))
noncomputable def f14_un : Out → Option (Int)
  | ([.int .i64 y0], []) => some y0
  | _ => none
theorem f14_un_ok (o : Out) (y : Int) (h : f14_un o = some y) : o = f14_O y := by
  unfold f14_un at h
  split at h
  · injection h with h; subst h; rfl
  · cases h
noncomputable def f14_msk : Nat → Option (List Nat) := fun key => bif key == 30 then some [6, 7, 44, 45] else none
noncomputable def f14_C (c14 : PV → PV → (Int → R) → R) (c15 : PV → (Int → R) → R) (c35 : Int → Int → (Int → R) → R) (c36 : Int → Int → (Int → R) → R) (c37 : PV → (PV → R) → R) : Oracle := orc 14 f14_D f14_O (fun x ret => c14 x.1 x.2 (fun y0 => ret y0)) <| orc 15 f15_D f15_O (fun x ret => c15 x (fun y0 => ret y0)) <| orc 35 f35_D f35_O (fun x ret => c35 x.1 x.2 (fun y0 => ret y0)) <| orc 36 f36_D f36_O (fun x ret => c36 x.1 x.2 (fun y0 => ret y0)) <| orc 37 f37_D f37_O (fun x ret => c37 x (fun y0 => ret y0)) <| orc0
noncomputable def f14_E (k : Nat) (c14 : PV → PV → (Int → R) → R) (c15 : PV → (Int → R) → R) (c35 : Int → Int → (Int → R) → R) (c36 : Int → Int → (Int → R) → R) (c37 : PV → (PV → R) → R) : Env := { P := Try.prog, nilOwn := fun d => false, fldOwn := fun d i => false, ownPar := ownPars, ownRet := false, mask := f14_msk, fuel := k, C := f14_C c14 c15 c35 c36 c37 }
noncomputable def f14_code : Code := Try.f14.body.getD .skip
noncomputable def f14_cw1 : Code := subC f14_code [1, 1, 1, 1, 1, 0, 1, 0, 0]
noncomputable def f14_hw1_0 (p8 : PV) (p9 : PV) (n12 : Int) : St := ⟨[.dead, .dead, .dead, .dead, .dead, .dead, .val 22 p8, .val 22 p9, .dead, .dead, .dead, .dead, .dead, .dead, .dead, .dead, .dead, .dead, .dead, .dead, .dead, .dead, .dead, .dead, .dead, .dead, .dead, .dead, .dead, .dead, .dead, .dead, .dead, .dead, .dead, .dead, .dead, .dead, .dead, .dead, .dead, .dead, .dead, .dead, .int .i64 (if (List.length (PV.els p9) : Int) < (List.length (PV.els p8) : Int) then (List.length (PV.els p9) : Int) else (List.length (PV.els p8) : Int)), .int .i64 n12, .dead, .dead, .dead, .dead, .dead, .dead, .dead, .dead, .dead, .dead, .dead, .dead, .dead, .dead, .dead, .dead, .dead, .dead, .dead, .dead], []⟩
noncomputable def f14_w1A (k : Nat) (c14 : PV → PV → (Int → R) → R) (c15 : PV → (Int → R) → R) (c35 : Int → Int → (Int → R) → R) (c36 : Int → Int → (Int → R) → R) (c37 : PV → (PV → R) → R) (retF : Int → R) (p8 : PV) (p9 : PV) (n12 : Int) : R := loopM (f14_E k c14 c15 c35 c36 c37) f14_cw1 (kont (f14_E k c14 c15 c35 c36 c37) f14_code [1, 1, 1, 1, 1, 0, 1, 0] (endK (f14_E k c14 c15 c35 c36 c37) Try.f14 [] f14_un retF)) k (f14_hw1_0 p8 p9 n12)
noncomputable def f14_w1b0 (c14 : PV → PV → (Int → R) → R) (c15 : PV → (Int → R) → R) (c35 : Int → Int → (Int → R) → R) (c36 : Int → Int → (Int → R) → R) (c37 : PV → (PV → R) → R) (ret0 : Int → R) (next_w1_0 : Int → R) (p8 : PV) (p9 : PV) (n12 : Int) : R :=
  bif (decide (n12 < (if (List.length (PV.els p9) : Int) < (List.length (PV.els p8) : Int) then (List.length (PV.els p9) : Int) else (List.length (PV.els p8) : Int)))) then
    bif (true && decide ((0 : Int) ≤ n12) && decide (n12 < (List.length (PV.els p8) : Int))) then
      bif (true && decide ((0 : Int) ≤ n12) && decide (n12 < (List.length (PV.els p9) : Int))) then
        c14 (List.getD (PV.els p8) (n12).toNat PV.nil) (List.getD (PV.els p9) (n12).toNat PV.nil) fun n13 =>
        bif (!(decide (n13 = (0 : Int)))) then
          ret0 n13
        else next_w1_0 (IntKind.wrap .i64 (n12 + (1 : Int)))
      else none
    else none
  else c35 (List.length (PV.els p9) : Int) (List.length (PV.els p8) : Int) fun n14 =>
  ret0 n14

theorem f14_w1b0_mem (k : Nat) (c14 : PV → PV → (Int → R) → R) (c15 : PV → (Int → R) → R) (c35 : Int → Int → (Int → R) → R) (c36 : Int → Int → (Int → R) → R) (c37 : PV → (PV → R) → R) (retF : Int → R) (NX_w1 : St → R) (p8 : PV) (p9 : PV) (n12 : Int) : exec (f14_E k c14 c15 c35 c36 c37) f14_cw1 (purgeK (f14_E k c14 c15 c35 c36 c37) f14_cw1 (loopK NX_w1 (kont (f14_E k c14 c15 c35 c36 c37) f14_code [1, 1, 1, 1, 1, 0, 1, 0] (endK (f14_E k c14 c15 c35 c36 c37) Try.f14 [] f14_un retF)))) (f14_hw1_0 p8 p9 n12) = f14_w1b0 c14 c15 c35 c36 c37 (fun y0 => retF y0) (fun n12 => NX_w1 (f14_hw1_0 p8 p9 n12)) p8 p9 n12 := by kernel_rfl

noncomputable def f14_w1b0N (k : Nat) (c14 : PV → PV → (Int → R) → R) (c15 : PV → (Int → R) → R) (c35 : Int → Int → (Int → R) → R) (c36 : Int → Int → (Int → R) → R) (c37 : PV → (PV → R) → R) (ret0 : Int → R) (next_w1_0 : Int → R) (p8 : PV) (p9 : PV) (n12 : Int) : R :=
  f14_w1b0 c14 c15 c35 c36 c37 ret0 next_w1_0 p8 p9 n12
theorem f14_w1b0_eq (k : Nat) (c14 : PV → PV → (Int → R) → R) (c15 : PV → (Int → R) → R) (c35 : Int → Int → (Int → R) → R) (c36 : Int → Int → (Int → R) → R) (c37 : PV → (PV → R) → R) (retF : Int → R) (NX_w1 : St → R) (p8 : PV) (p9 : PV) (n12 : Int) : exec (f14_E k c14 c15 c35 c36 c37) f14_cw1 (purgeK (f14_E k c14 c15 c35 c36 c37) f14_cw1 (loopK NX_w1 (kont (f14_E k c14 c15 c35 c36 c37) f14_code [1, 1, 1, 1, 1, 0, 1, 0] (endK (f14_E k c14 c15 c35 c36 c37) Try.f14 [] f14_un retF)))) (f14_hw1_0 p8 p9 n12) = f14_w1b0N k c14 c15 c35 c36 c37 (fun y0 => retF y0) (fun n12 => NX_w1 (f14_hw1_0 p8 p9 n12)) p8 p9 n12 :=
  (f14_w1b0_mem k c14 c15 c35 c36 c37 retF NX_w1 p8 p9 n12)

noncomputable def f14_w1B (k : Nat) (c14 : PV → PV → (Int → R) → R) (c15 : PV → (Int → R) → R) (c35 : Int → Int → (Int → R) → R) (c36 : Int → Int → (Int → R) → R) (c37 : PV → (PV → R) → R) (ret0 : Int → R) (p8 : PV) (p9 : PV) (nx : Int → R) : Int → R := (fun s => f14_w1b0N k c14 c15 c35 c36 c37 ret0 (fun n12 => nx n12) p8 p9 s)
noncomputable def f14_w1N (k : Nat) (c14 : PV → PV → (Int → R) → R) (c15 : PV → (Int → R) → R) (c35 : Int → Int → (Int → R) → R) (c36 : Int → Int → (Int → R) → R) (c37 : PV → (PV → R) → R) (ret0 : Int → R) (p8 : PV) (p9 : PV) (n12 : Int) : R := loopR (f14_w1B k c14 c15 c35 c36 c37 ret0 p8 p9) k n12
theorem f14_w1_eq (k : Nat) (c14 : PV → PV → (Int → R) → R) (c15 : PV → (Int → R) → R) (c35 : Int → Int → (Int → R) → R) (c36 : Int → Int → (Int → R) → R) (c37 : PV → (PV → R) → R) (retF : Int → R) (p8 : PV) (p9 : PV) (n12 : Int) : f14_w1A k c14 c15 c35 c36 c37 retF p8 p9 n12 = f14_w1N k c14 c15 c35 c36 c37 (fun y0 => retF y0) p8 p9 n12 :=
  Eq.mp (by kernel_rfl) (loop_sim (E := (f14_E k c14 c15 c35 c36 c37)) (c := f14_cw1) (K := (kont (f14_E k c14 c15 c35 c36 c37) f14_code [1, 1, 1, 1, 1, 0, 1, 0] (endK (f14_E k c14 c15 c35 c36 c37) Try.f14 [] f14_un retF))) (S := Int) (fun s => f14_hw1_0 p8 p9 s) (f14_w1B k c14 c15 c35 c36 c37 (fun y0 => retF y0) p8 p9) (fun NX s => by
    exact Eq.mp (by kernel_rfl) (f14_w1b0_eq k c14 c15 c35 c36 c37 retF NX p8 p9 s)) k n12)

noncomputable def f14_e (c14 : PV → PV → (Int → R) → R) (c15 : PV → (Int → R) → R) (c35 : Int → Int → (Int → R) → R) (c36 : Int → Int → (Int → R) → R) (c37 : PV → (PV → R) → R) (ret0 : Int → R) (w1 : PV → PV → Int → R) (p1 : PV) (p2 : PV) : R :=
  c15 p2 fun n3 =>
  c15 p1 fun n4 =>
  c35 n3 n4 fun n5 =>
  bif (!(decide (n5 = (0 : Int)))) then
    ret0 n5
  else bif (!(decide ((PV.num (PV.fld p1 0)) = (PV.num (PV.fld p2 0))))) then
    c35 (PV.num (PV.fld p1 0)) (PV.num (PV.fld p2 0)) fun n6 =>
    ret0 n6
  else bif (decide ((PV.num (PV.fld p1 0)) = (2 : Int))) then
    c36 (PV.num (PV.fld p1 1)) (PV.num (PV.fld p2 1)) fun n7 =>
    ret0 n7
  else c37 p1 fun p8 =>
  c37 p2 fun p9 =>
  w1 p8 p9 0

theorem f14_e_mem (k : Nat) (c14 : PV → PV → (Int → R) → R) (c15 : PV → (Int → R) → R) (c35 : Int → Int → (Int → R) → R) (c36 : Int → Int → (Int → R) → R) (c37 : PV → (PV → R) → R) (retF : Int → R) (p1 : PV) (p2 : PV) : exec (f14_E k c14 c15 c35 c36 c37) f14_code (endK (f14_E k c14 c15 c35 c36 c37) Try.f14 [] f14_un retF) ⟨[.val 24 p1, .val 24 p2, .undef, .undef, .undef, .undef, .undef, .undef, .undef, .undef, .undef, .undef, .undef, .undef, .undef, .undef, .undef, .undef, .undef, .undef, .undef, .undef, .undef, .undef, .undef, .undef, .undef, .undef, .undef, .undef, .undef, .undef, .undef, .undef, .undef, .undef, .undef, .undef, .undef, .undef, .undef, .undef, .undef, .undef, .undef, .undef, .undef, .undef, .undef, .undef, .undef, .undef, .undef, .undef, .undef, .undef, .undef, .undef, .undef, .undef, .undef, .undef, .undef, .undef, .undef, .undef], []⟩ = f14_e c14 c15 c35 c36 c37 (fun y0 => retF y0) (fun p8 p9 n12 => f14_w1A k c14 c15 c35 c36 c37 retF p8 p9 n12) p1 p2 := by kernel_rfl

noncomputable def f14_N (k : Nat) (c14 : PV → PV → (Int → R) → R) (c15 : PV → (Int → R) → R) (c35 : Int → Int → (Int → R) → R) (c36 : Int → Int → (Int → R) → R) (c37 : PV → (PV → R) → R) (ret0 : Int → R) (p1 : PV) (p2 : PV) : R :=
  f14_e c14 c15 c35 c36 c37 ret0 (fun p8 p9 n12 => f14_w1N k c14 c15 c35 c36 c37 ret0 p8 p9 n12) p1 p2
theorem f14_eq (k : Nat) (c14 : PV → PV → (Int → R) → R) (c15 : PV → (Int → R) → R) (c35 : Int → Int → (Int → R) → R) (c36 : Int → Int → (Int → R) → R) (c37 : PV → (PV → R) → R) (retF : Int → R) (p1 : PV) (p2 : PV) : exec (f14_E k c14 c15 c35 c36 c37) f14_code (endK (f14_E k c14 c15 c35 c36 c37) Try.f14 [] f14_un retF) ⟨[.val 24 p1, .val 24 p2, .undef, .undef, .undef, .undef, .undef, .undef, .undef, .undef, .undef, .undef, .undef, .undef, .undef, .undef, .undef, .undef, .undef, .undef, .undef, .undef, .undef, .undef, .undef, .undef, .undef, .undef, .undef, .undef, .undef, .undef, .undef, .undef, .undef, .undef, .undef, .undef, .undef, .undef, .undef, .undef, .undef, .undef, .undef, .undef, .undef, .undef, .undef, .undef, .undef, .undef, .undef, .undef, .undef, .undef, .undef, .undef, .undef, .undef, .undef, .undef, .undef, .undef, .undef, .undef], []⟩ = f14_N k c14 c15 c35 c36 c37 (fun y0 => retF y0) p1 p2 :=
  (f14_e_mem k c14 c15 c35 c36 c37 retF p1 p2).trans (by rw [show (fun p8 p9 n12 => f14_w1A k c14 c15 c35 c36 c37 retF p8 p9 n12) = (fun p8 p9 n12 => f14_w1N k c14 c15 c35 c36 c37 (fun y0 => retF y0) p8 p9 n12) from funext fun p8 => funext fun p9 => funext fun n12 => f14_w1_eq k c14 c15 c35 c36 c37 retF p8 p9 n12]; rfl)

noncomputable def G14 : Nat → PV → PV → (Int → R) → R
  | 0, _, _, _ => none
  | k + 1, p1, p2, ret0 => f14_N k (G14 k) (G15 k) (G35 k) (G36 k) (G37 k) ret0 p1 p2
theorem S14 : ∀ k, Snd Try.prog 14 f14_I f14_O (fun x ret => G14 k x.1 x.2 (fun y0 => ret y0))
  | 0 => snd_none
  | k + 1 => snd_step (E := f14_E k (G14 k) (G15 k) (G35 k) (G36 k) (G37 k)) rfl laidOut noNums (orc_ok (S14 k) f14_D_ok (orc_ok (S15 k) f15_D_ok (orc_ok (S35 k) f35_D_ok (orc_ok (S36 k) f36_D_ok (orc_ok (S37 k) f37_D_ok orc0_ok))))) (f := 14) (fn := Try.f14) (code := f14_code) Try.func14 (by kernel_rfl) (drawsOk_of laidOut (orc_ok (S14 k) f14_D_ok (orc_ok (S15 k) f15_D_ok (orc_ok (S35 k) f35_D_ok (orc_ok (S36 k) f36_D_ok (orc_ok (S37 k) f37_D_ok orc0_ok))))) mixed (by kernel_rfl)) f14_un f14_un_ok [] (fun _ => rfl)
      (fun x ret => f14_eq k (G14 k) (G15 k) (G35 k) (G36 k) (G37 k) ret x.1 x.2)

/- catchpole/catchpolelaw13.awake -/
noncomputable def f12_I : Unit → List SV × Obs := fun x => ([], [])
noncomputable def f12_D : List SV → Obs → Option (Unit)
  | [], [] => some ()
  | _, _ => none
theorem f12_D_ok (args : List SV) (B : Obs) (x : Unit) (h : f12_D args B = some x) : f12_I x = (args, B) := by
  unfold f12_D at h
  split at h
  · injection h with h; subst h; rfl
  · cases h
noncomputable def f12_O : Bool → Out := (fun y => ([.bool y], []))
noncomputable def f12_un : Out → Option (Bool)
  | ([.bool y0], []) => some y0
  | _ => none
theorem f12_un_ok (o : Out) (y : Bool) (h : f12_un o = some y) : o = f12_O y := by
  unfold f12_un at h
  split at h
  · injection h with h; subst h; rfl
  · cases h
noncomputable def f12_msk : Nat → Option (List Nat) := fun key =>  none
noncomputable def f12_C (c14 : PV → PV → (Int → R) → R) (c16 : PV → PV → (PV → R) → R) (c17 : PV → (PV → R) → R) (c18 : PV → (PV → R) → R) (c19 : Int → (PV → R) → R) : Oracle := orc 14 f14_D f14_O (fun x ret => c14 x.1 x.2 (fun y0 => ret y0)) <| orc 16 f16_D f16_O (fun x ret => c16 x.1 x.2 (fun y0 => ret y0)) <| orc 17 f17_D f17_O (fun x ret => c17 x (fun y0 => ret y0)) <| orc 18 f18_D f18_O (fun x ret => c18 x (fun y0 => ret y0)) <| orc 19 f19_D f19_O (fun x ret => c19 x (fun y0 => ret y0)) <| orc0
noncomputable def f12_E (k : Nat) (c14 : PV → PV → (Int → R) → R) (c16 : PV → PV → (PV → R) → R) (c17 : PV → (PV → R) → R) (c18 : PV → (PV → R) → R) (c19 : Int → (PV → R) → R) : Env := { P := Try.prog, nilOwn := fun d => false, fldOwn := fun d i => false, ownPar := ownPars, ownRet := false, mask := f12_msk, fuel := k, C := f12_C c14 c16 c17 c18 c19 }
noncomputable def f12_code : Code := Try.f12.body.getD .skip
noncomputable def f12_e (c14 : PV → PV → (Int → R) → R) (c16 : PV → PV → (PV → R) → R) (c17 : PV → (PV → R) → R) (c18 : PV → (PV → R) → R) (c19 : Int → (PV → R) → R) (ret0 : Bool → R) : R :=
  c19 97 fun p1 =>
  c19 98 fun p2 =>
  c16 p1 p2 fun p3 =>
  c18 p3 fun p4 =>
  c19 97 fun p5 =>
  c17 p5 fun p6 =>
  c14 p4 p6 fun n7 =>
  bif ((decide (n7 = (-1 : Int))) == true) then
    c19 97 fun p8 =>
    c17 p8 fun p9 =>
    c19 97 fun p10 =>
    c17 p10 fun p11 =>
    c14 p9 p11 fun n12 =>
    ret0 (decide (n12 = (0 : Int)))
  else ret0 false

theorem f12_e_mem (k : Nat) (c14 : PV → PV → (Int → R) → R) (c16 : PV → PV → (PV → R) → R) (c17 : PV → (PV → R) → R) (c18 : PV → (PV → R) → R) (c19 : Int → (PV → R) → R) (retF : Bool → R) : exec (f12_E k c14 c16 c17 c18 c19) f12_code (endK (f12_E k c14 c16 c17 c18 c19) Try.f12 [] f12_un retF) ⟨[.undef, .undef, .undef, .undef, .undef, .undef, .undef, .undef, .undef, .undef, .undef, .undef, .undef, .undef, .undef, .undef, .undef], []⟩ = f12_e c14 c16 c17 c18 c19 (fun y0 => retF y0) := by kernel_rfl

noncomputable def f12_N (k : Nat) (c14 : PV → PV → (Int → R) → R) (c16 : PV → PV → (PV → R) → R) (c17 : PV → (PV → R) → R) (c18 : PV → (PV → R) → R) (c19 : Int → (PV → R) → R) (ret0 : Bool → R) : R :=
  f12_e c14 c16 c17 c18 c19 ret0
theorem f12_eq (k : Nat) (c14 : PV → PV → (Int → R) → R) (c16 : PV → PV → (PV → R) → R) (c17 : PV → (PV → R) → R) (c18 : PV → (PV → R) → R) (c19 : Int → (PV → R) → R) (retF : Bool → R) : exec (f12_E k c14 c16 c17 c18 c19) f12_code (endK (f12_E k c14 c16 c17 c18 c19) Try.f12 [] f12_un retF) ⟨[.undef, .undef, .undef, .undef, .undef, .undef, .undef, .undef, .undef, .undef, .undef, .undef, .undef, .undef, .undef, .undef, .undef], []⟩ = f12_N k c14 c16 c17 c18 c19 (fun y0 => retF y0) :=
  (f12_e_mem k c14 c16 c17 c18 c19 retF)

noncomputable def G12 : Nat → (Bool → R) → R
  | 0, _ => none
  | k + 1, ret0 => f12_N k (G14 k) (G16 k) (G17 k) (G18 k) (G19 k) ret0 
theorem S12 : ∀ k, Snd Try.prog 12 f12_I f12_O (fun x ret => G12 k (fun y0 => ret y0))
  | 0 => snd_none
  | k + 1 => snd_step (E := f12_E k (G14 k) (G16 k) (G17 k) (G18 k) (G19 k)) rfl laidOut noNums (orc_ok (S14 k) f14_D_ok (orc_ok (S16 k) f16_D_ok (orc_ok (S17 k) f17_D_ok (orc_ok (S18 k) f18_D_ok (orc_ok (S19 k) f19_D_ok orc0_ok))))) (f := 12) (fn := Try.f12) (code := f12_code) Try.func12 (by kernel_rfl) (drawsOk_of laidOut (orc_ok (S14 k) f14_D_ok (orc_ok (S16 k) f16_D_ok (orc_ok (S17 k) f17_D_ok (orc_ok (S18 k) f18_D_ok (orc_ok (S19 k) f19_D_ok orc0_ok))))) mixed (by kernel_rfl)) f12_un f12_un_ok [] (fun _ => rfl)
      (fun x ret => f12_eq k (G14 k) (G16 k) (G17 k) (G18 k) (G19 k) ret)

/- catchpole/catchpolelaw13.wide -/
noncomputable def f13_I : PV × Int → List SV × Obs := fun x => ([.val 24 x.1, .int .i64 x.2], [])
noncomputable def f13_D : List SV → Obs → Option (PV × Int)
  | [.val 24 p1, .int .i64 n2], [] => some (p1, n2)
  | _, _ => none
theorem f13_D_ok (args : List SV) (B : Obs) (x : PV × Int) (h : f13_D args B = some x) : f13_I x = (args, B) := by
  unfold f13_D at h
  split at h
  · injection h with h; subst h; rfl
  · cases h
noncomputable def f13_O : Bool → Out := (fun y => ([.bool y], []))
noncomputable def f13_un : Out → Option (Bool)
  | ([.bool y0], []) => some y0
  | _ => none
theorem f13_un_ok (o : Out) (y : Bool) (h : f13_un o = some y) : o = f13_O y := by
  unfold f13_un at h
  split at h
  · injection h with h; subst h; rfl
  · cases h
noncomputable def f13_msk : Nat → Option (List Nat) := fun key => bif key == 12 then some [1, 2, 5] else none
noncomputable def f13_C (c13 : PV → Int → (Bool → R) → R) : Oracle := orc 13 f13_D f13_O (fun x ret => c13 x.1 x.2 (fun y0 => ret y0)) <| orc0
noncomputable def f13_E (k : Nat) (c13 : PV → Int → (Bool → R) → R) : Env := { P := Try.prog, nilOwn := fun d => false, fldOwn := fun d i => false, ownPar := ownPars, ownRet := false, mask := f13_msk, fuel := k, C := f13_C c13 }
noncomputable def f13_code : Code := Try.f13.body.getD .skip
noncomputable def f13_cw1 : Code := subC f13_code [1, 1, 0, 1, 0, 0]
noncomputable def f13_hw1_0 (p1 : PV) (n2 : Int) (n4 : Int) : St := ⟨[.dead, .int .i64 n2, .ptr 2 [], .dead, .dead, .int .i64 n4, .dead, .dead, .dead, .dead, .dead, .dead, .dead, .dead, .dead, .dead, .dead, .dead, .dead, .dead, .dead, .dead, .dead, .dead, .dead, .dead, .dead, .dead, .dead], [(2, .box 24 (.val 24 p1))]⟩
noncomputable def f13_w1A (k : Nat) (c13 : PV → Int → (Bool → R) → R) (retF : Bool → R) (p1 : PV) (n2 : Int) (n4 : Int) : R := loopM (f13_E k c13) f13_cw1 (kont (f13_E k c13) f13_code [1, 1, 0, 1, 0] (endK (f13_E k c13) Try.f13 [] f13_un retF)) k (f13_hw1_0 p1 n2 n4)
noncomputable def f13_w1b0 (c13 : PV → Int → (Bool → R) → R) (ret0 : Bool → R) (next_w1_0 : Int → R) (p1 : PV) (n2 : Int) (n4 : Int) : R :=
  bif (decide (n4 < (List.length (PV.els (PV.fld p1 2)) : Int))) then
    bif (true && decide ((0 : Int) ≤ n4) && decide (n4 < (List.length (PV.els (PV.fld p1 2)) : Int))) then
      c13 (List.getD (PV.els (PV.fld p1 2)) (n4).toNat PV.nil) (IntKind.wrap .i64 (n2 - (1 : Int))) fun b5 =>
      bif b5 then
        ret0 true
      else next_w1_0 (IntKind.wrap .i64 (n4 + (1 : Int)))
    else none
  else ret0 false

theorem f13_w1b0_mem (k : Nat) (c13 : PV → Int → (Bool → R) → R) (retF : Bool → R) (NX_w1 : St → R) (p1 : PV) (n2 : Int) (n4 : Int) : exec (f13_E k c13) f13_cw1 (purgeK (f13_E k c13) f13_cw1 (loopK NX_w1 (kont (f13_E k c13) f13_code [1, 1, 0, 1, 0] (endK (f13_E k c13) Try.f13 [] f13_un retF)))) (f13_hw1_0 p1 n2 n4) = f13_w1b0 c13 (fun y0 => retF y0) (fun n4 => NX_w1 (f13_hw1_0 p1 n2 n4)) p1 n2 n4 := by kernel_rfl

noncomputable def f13_w1b0N (k : Nat) (c13 : PV → Int → (Bool → R) → R) (ret0 : Bool → R) (next_w1_0 : Int → R) (p1 : PV) (n2 : Int) (n4 : Int) : R :=
  f13_w1b0 c13 ret0 next_w1_0 p1 n2 n4
theorem f13_w1b0_eq (k : Nat) (c13 : PV → Int → (Bool → R) → R) (retF : Bool → R) (NX_w1 : St → R) (p1 : PV) (n2 : Int) (n4 : Int) : exec (f13_E k c13) f13_cw1 (purgeK (f13_E k c13) f13_cw1 (loopK NX_w1 (kont (f13_E k c13) f13_code [1, 1, 0, 1, 0] (endK (f13_E k c13) Try.f13 [] f13_un retF)))) (f13_hw1_0 p1 n2 n4) = f13_w1b0N k c13 (fun y0 => retF y0) (fun n4 => NX_w1 (f13_hw1_0 p1 n2 n4)) p1 n2 n4 :=
  (f13_w1b0_mem k c13 retF NX_w1 p1 n2 n4)

noncomputable def f13_w1B (k : Nat) (c13 : PV → Int → (Bool → R) → R) (ret0 : Bool → R) (p1 : PV) (n2 : Int) (nx : Int → R) : Int → R := (fun s => f13_w1b0N k c13 ret0 (fun n4 => nx n4) p1 n2 s)
noncomputable def f13_w1N (k : Nat) (c13 : PV → Int → (Bool → R) → R) (ret0 : Bool → R) (p1 : PV) (n2 : Int) (n4 : Int) : R := loopR (f13_w1B k c13 ret0 p1 n2) k n4
theorem f13_w1_eq (k : Nat) (c13 : PV → Int → (Bool → R) → R) (retF : Bool → R) (p1 : PV) (n2 : Int) (n4 : Int) : f13_w1A k c13 retF p1 n2 n4 = f13_w1N k c13 (fun y0 => retF y0) p1 n2 n4 :=
  Eq.mp (by kernel_rfl) (loop_sim (E := (f13_E k c13)) (c := f13_cw1) (K := (kont (f13_E k c13) f13_code [1, 1, 0, 1, 0] (endK (f13_E k c13) Try.f13 [] f13_un retF))) (S := Int) (fun s => f13_hw1_0 p1 n2 s) (f13_w1B k c13 (fun y0 => retF y0) p1 n2) (fun NX s => by
    exact Eq.mp (by kernel_rfl) (f13_w1b0_eq k c13 retF NX p1 n2 s)) k n4)

noncomputable def f13_e (c13 : PV → Int → (Bool → R) → R) (ret0 : Bool → R) (w1 : Int → R) (p1 : PV) (n2 : Int) : R :=
  bif ((decide (n2 < (1 : Int))) == false) then
    bif (decide ((30 : Int) < (List.length (PV.els (PV.fld p1 2)) : Int))) then
      ret0 true
    else w1 0
  else ret0 true

theorem f13_e_mem (k : Nat) (c13 : PV → Int → (Bool → R) → R) (retF : Bool → R) (p1 : PV) (n2 : Int) : exec (f13_E k c13) f13_code (endK (f13_E k c13) Try.f13 [] f13_un retF) ⟨[.val 24 p1, .int .i64 n2, .undef, .undef, .undef, .undef, .undef, .undef, .undef, .undef, .undef, .undef, .undef, .undef, .undef, .undef, .undef, .undef, .undef, .undef, .undef, .undef, .undef, .undef, .undef, .undef, .undef, .undef, .undef], []⟩ = f13_e c13 (fun y0 => retF y0) (fun n4 => f13_w1A k c13 retF p1 n2 n4) p1 n2 := by kernel_rfl

noncomputable def f13_N (k : Nat) (c13 : PV → Int → (Bool → R) → R) (ret0 : Bool → R) (p1 : PV) (n2 : Int) : R :=
  f13_e c13 ret0 (fun n4 => f13_w1N k c13 ret0 p1 n2 n4) p1 n2
theorem f13_eq (k : Nat) (c13 : PV → Int → (Bool → R) → R) (retF : Bool → R) (p1 : PV) (n2 : Int) : exec (f13_E k c13) f13_code (endK (f13_E k c13) Try.f13 [] f13_un retF) ⟨[.val 24 p1, .int .i64 n2, .undef, .undef, .undef, .undef, .undef, .undef, .undef, .undef, .undef, .undef, .undef, .undef, .undef, .undef, .undef, .undef, .undef, .undef, .undef, .undef, .undef, .undef, .undef, .undef, .undef, .undef, .undef], []⟩ = f13_N k c13 (fun y0 => retF y0) p1 n2 :=
  (f13_e_mem k c13 retF p1 n2).trans (by rw [show (fun n4 => f13_w1A k c13 retF p1 n2 n4) = (fun n4 => f13_w1N k c13 (fun y0 => retF y0) p1 n2 n4) from funext fun n4 => f13_w1_eq k c13 retF p1 n2 n4]; rfl)

noncomputable def G13 : Nat → PV → Int → (Bool → R) → R
  | 0, _, _, _ => none
  | k + 1, p1, n2, ret0 => f13_N k (G13 k) ret0 p1 n2
theorem S13 : ∀ k, Snd Try.prog 13 f13_I f13_O (fun x ret => G13 k x.1 x.2 (fun y0 => ret y0))
  | 0 => snd_none
  | k + 1 => snd_step (E := f13_E k (G13 k)) rfl laidOut noNums (orc_ok (S13 k) f13_D_ok orc0_ok) (f := 13) (fn := Try.f13) (code := f13_code) Try.func13 (by kernel_rfl) (drawsOk_of laidOut (orc_ok (S13 k) f13_D_ok orc0_ok) mixed (by kernel_rfl)) f13_un f13_un_ok [] (fun _ => rfl)
      (fun x ret => f13_eq k (G13 k) ret x.1 x.2)

/- catchpole/catchpolelaw13.RankTotal -/
noncomputable def f3_I : PV × PV × PV → List SV × Obs := fun x => ([.val 24 x.1, .val 24 x.2.1, .val 24 x.2.2], [])
noncomputable def f3_D : List SV → Obs → Option (PV × PV × PV)
  | [.val 24 p1, .val 24 p2, .val 24 p3], [] => some (p1, p2, p3)
  | _, _ => none
theorem f3_D_ok (args : List SV) (B : Obs) (x : PV × PV × PV) (h : f3_D args B = some x) : f3_I x = (args, B) := by
  unfold f3_D at h
  split at h
  · injection h with h; subst h; rfl
  · cases h
noncomputable def f3_O : Bool → Out := (fun y => ([.bool y], []))
noncomputable def f3_un : Out → Option (Bool)
  | ([.bool y0], []) => some y0
  | _ => none
theorem f3_un_ok (o : Out) (y : Bool) (h : f3_un o = some y) : o = f3_O y := by
  unfold f3_un at h
  split at h
  · injection h with h; subst h; rfl
  · cases h
noncomputable def f3_msk : Nat → Option (List Nat) := fun key =>  none
noncomputable def f3_C (c12 : (Bool → R) → R) (c13 : PV → Int → (Bool → R) → R) (c14 : PV → PV → (Int → R) → R) : Oracle := orc 12 f12_D f12_O (fun x ret => c12 (fun y0 => ret y0)) <| orc 13 f13_D f13_O (fun x ret => c13 x.1 x.2 (fun y0 => ret y0)) <| orc 14 f14_D f14_O (fun x ret => c14 x.1 x.2 (fun y0 => ret y0)) <| orc0
noncomputable def f3_E (k : Nat) (c12 : (Bool → R) → R) (c13 : PV → Int → (Bool → R) → R) (c14 : PV → PV → (Int → R) → R) : Env := { P := Try.prog, nilOwn := fun d => false, fldOwn := fun d i => false, ownPar := ownPars, ownRet := false, mask := f3_msk, fuel := k, C := f3_C c12 c13 c14 }
noncomputable def f3_code : Code := Try.f3.body.getD .skip
noncomputable def f3_e (c12 : (Bool → R) → R) (c13 : PV → Int → (Bool → R) → R) (c14 : PV → PV → (Int → R) → R) (ret0 : Bool → R) (p1 : PV) (p2 : PV) (p3 : PV) : R :=
  c12 fun b4 =>
  bif (!b4) then
    ret0 false
  else c13 p1 20 fun b5 =>
  bif (b5 == false) then
    c13 p2 20 fun b6 =>
    bif (b6 == false) then
      c13 p3 20 fun b7 =>
      bif b7 then
        ret0 true
      else c14 p1 p2 fun n8 =>
      c14 p2 p3 fun n9 =>
      c14 p1 p3 fun n10 =>
      c14 p2 p1 fun n11 =>
      bif ((decide (n11 = (IntKind.wrap .i64 (0 - n8)))) == true) then
        c14 p1 p1 fun n12 =>
        bif ((decide (n12 = (0 : Int))) == true) then
          bif ((decide ((0 : Int) < n8)) == false) then
            bif ((decide ((0 : Int) < n9)) == false) then
              bif ((decide (n10 ≤ (0 : Int))) == true) then
                bif ((decide ((0 : Int) ≤ n8)) == false) then
                  bif ((decide ((0 : Int) < n9)) == false) then
                    bif ((decide (n10 < (0 : Int))) == true) then
                      bif ((decide ((0 : Int) < n8)) == false) then
                        bif ((decide ((0 : Int) ≤ n9)) == false) then
                          ret0 (decide (n10 < (0 : Int)))
                        else ret0 true
                      else ret0 true
                    else ret0 false
                  else bif ((decide ((0 : Int) < n8)) == false) then
                    bif ((decide ((0 : Int) ≤ n9)) == false) then
                      ret0 (decide (n10 < (0 : Int)))
                    else ret0 true
                  else ret0 true
                else bif ((decide ((0 : Int) < n8)) == false) then
                  bif ((decide ((0 : Int) ≤ n9)) == false) then
                    ret0 (decide (n10 < (0 : Int)))
                  else ret0 true
                else ret0 true
              else ret0 false
            else bif ((decide ((0 : Int) ≤ n8)) == false) then
              bif ((decide ((0 : Int) < n9)) == false) then
                bif ((decide (n10 < (0 : Int))) == true) then
                  bif ((decide ((0 : Int) < n8)) == false) then
                    bif ((decide ((0 : Int) ≤ n9)) == false) then
                      ret0 (decide (n10 < (0 : Int)))
                    else ret0 true
                  else ret0 true
                else ret0 false
              else bif ((decide ((0 : Int) < n8)) == false) then
                bif ((decide ((0 : Int) ≤ n9)) == false) then
                  ret0 (decide (n10 < (0 : Int)))
                else ret0 true
              else ret0 true
            else bif ((decide ((0 : Int) < n8)) == false) then
              bif ((decide ((0 : Int) ≤ n9)) == false) then
                ret0 (decide (n10 < (0 : Int)))
              else ret0 true
            else ret0 true
          else bif ((decide ((0 : Int) ≤ n8)) == false) then
            bif ((decide ((0 : Int) < n9)) == false) then
              bif ((decide (n10 < (0 : Int))) == true) then
                bif ((decide ((0 : Int) < n8)) == false) then
                  bif ((decide ((0 : Int) ≤ n9)) == false) then
                    ret0 (decide (n10 < (0 : Int)))
                  else ret0 true
                else ret0 true
              else ret0 false
            else bif ((decide ((0 : Int) < n8)) == false) then
              bif ((decide ((0 : Int) ≤ n9)) == false) then
                ret0 (decide (n10 < (0 : Int)))
              else ret0 true
            else ret0 true
          else bif ((decide ((0 : Int) < n8)) == false) then
            bif ((decide ((0 : Int) ≤ n9)) == false) then
              ret0 (decide (n10 < (0 : Int)))
            else ret0 true
          else ret0 true
        else ret0 false
      else ret0 false
    else ret0 true
  else ret0 true

theorem f3_e_mem (k : Nat) (c12 : (Bool → R) → R) (c13 : PV → Int → (Bool → R) → R) (c14 : PV → PV → (Int → R) → R) (retF : Bool → R) (p1 : PV) (p2 : PV) (p3 : PV) : exec (f3_E k c12 c13 c14) f3_code (endK (f3_E k c12 c13 c14) Try.f3 [] f3_un retF) ⟨[.val 24 p1, .val 24 p2, .val 24 p3, .undef, .undef, .undef, .undef, .undef, .undef, .undef, .undef, .undef, .undef, .undef, .undef, .undef, .undef, .undef, .undef, .undef, .undef, .undef, .undef, .undef, .undef, .undef, .undef, .undef, .undef, .undef, .undef, .undef, .undef, .undef, .undef, .undef, .undef, .undef, .undef, .undef, .undef, .undef, .undef, .undef, .undef, .undef, .undef, .undef, .undef, .undef, .undef, .undef, .undef, .undef, .undef, .undef, .undef, .undef, .undef, .undef, .undef, .undef, .undef, .undef, .undef, .undef, .undef, .undef, .undef, .undef, .undef, .undef, .undef, .undef, .undef, .undef, .undef, .undef, .undef], []⟩ = f3_e c12 c13 c14 (fun y0 => retF y0) p1 p2 p3 := by kernel_rfl

noncomputable def f3_N (k : Nat) (c12 : (Bool → R) → R) (c13 : PV → Int → (Bool → R) → R) (c14 : PV → PV → (Int → R) → R) (ret0 : Bool → R) (p1 : PV) (p2 : PV) (p3 : PV) : R :=
  f3_e c12 c13 c14 ret0 p1 p2 p3
theorem f3_eq (k : Nat) (c12 : (Bool → R) → R) (c13 : PV → Int → (Bool → R) → R) (c14 : PV → PV → (Int → R) → R) (retF : Bool → R) (p1 : PV) (p2 : PV) (p3 : PV) : exec (f3_E k c12 c13 c14) f3_code (endK (f3_E k c12 c13 c14) Try.f3 [] f3_un retF) ⟨[.val 24 p1, .val 24 p2, .val 24 p3, .undef, .undef, .undef, .undef, .undef, .undef, .undef, .undef, .undef, .undef, .undef, .undef, .undef, .undef, .undef, .undef, .undef, .undef, .undef, .undef, .undef, .undef, .undef, .undef, .undef, .undef, .undef, .undef, .undef, .undef, .undef, .undef, .undef, .undef, .undef, .undef, .undef, .undef, .undef, .undef, .undef, .undef, .undef, .undef, .undef, .undef, .undef, .undef, .undef, .undef, .undef, .undef, .undef, .undef, .undef, .undef, .undef, .undef, .undef, .undef, .undef, .undef, .undef, .undef, .undef, .undef, .undef, .undef, .undef, .undef, .undef, .undef, .undef, .undef, .undef, .undef], []⟩ = f3_N k c12 c13 c14 (fun y0 => retF y0) p1 p2 p3 :=
  (f3_e_mem k c12 c13 c14 retF p1 p2 p3)

noncomputable def G3 : Nat → PV → PV → PV → (Bool → R) → R
  | 0, _, _, _, _ => none
  | k + 1, p1, p2, p3, ret0 => f3_N k (G12 k) (G13 k) (G14 k) ret0 p1 p2 p3
theorem S3 : ∀ k, Snd Try.prog 3 f3_I f3_O (fun x ret => G3 k x.1 x.2.1 x.2.2 (fun y0 => ret y0))
  | 0 => snd_none
  | k + 1 => snd_step (E := f3_E k (G12 k) (G13 k) (G14 k)) rfl laidOut noNums (orc_ok (S12 k) f12_D_ok (orc_ok (S13 k) f13_D_ok (orc_ok (S14 k) f14_D_ok orc0_ok))) (f := 3) (fn := Try.f3) (code := f3_code) Try.func3 (by kernel_rfl) (drawsOk_of laidOut (orc_ok (S12 k) f12_D_ok (orc_ok (S13 k) f13_D_ok (orc_ok (S14 k) f14_D_ok orc0_ok))) mixed (by kernel_rfl)) f3_un f3_un_ok [] (fun _ => rfl)
      (fun x ret => f3_eq k (G12 k) (G13 k) (G14 k) ret x.1 x.2.1 x.2.2)

/- catchpole/catchpolelaw13.RankParts -/
noncomputable def f4_I : PV × PV × PV → List SV × Obs := fun x => ([.val 24 x.1, .val 24 x.2.1, .val 24 x.2.2], [])
noncomputable def f4_D : List SV → Obs → Option (PV × PV × PV)
  | [.val 24 p1, .val 24 p2, .val 24 p3], [] => some (p1, p2, p3)
  | _, _ => none
theorem f4_D_ok (args : List SV) (B : Obs) (x : PV × PV × PV) (h : f4_D args B = some x) : f4_I x = (args, B) := by
  unfold f4_D at h
  split at h
  · injection h with h; subst h; rfl
  · cases h
noncomputable def f4_O : Bool → Out := (fun y => ([.bool y], []))
noncomputable def f4_un : Out → Option (Bool)
  | ([.bool y0], []) => some y0
  | _ => none
theorem f4_un_ok (o : Out) (y : Bool) (h : f4_un o = some y) : o = f4_O y := by
  unfold f4_un at h
  split at h
  · injection h with h; subst h; rfl
  · cases h
noncomputable def f4_msk : Nat → Option (List Nat) := fun key =>  none
noncomputable def f4_C (c12 : (Bool → R) → R) (c13 : PV → Int → (Bool → R) → R) (c14 : PV → PV → (Int → R) → R) (c15 : PV → (Int → R) → R) (c16 : PV → PV → (PV → R) → R) (c17 : PV → (PV → R) → R) (c18 : PV → (PV → R) → R) : Oracle := orc 12 f12_D f12_O (fun x ret => c12 (fun y0 => ret y0)) <| orc 13 f13_D f13_O (fun x ret => c13 x.1 x.2 (fun y0 => ret y0)) <| orc 14 f14_D f14_O (fun x ret => c14 x.1 x.2 (fun y0 => ret y0)) <| orc 15 f15_D f15_O (fun x ret => c15 x (fun y0 => ret y0)) <| orc 16 f16_D f16_O (fun x ret => c16 x.1 x.2 (fun y0 => ret y0)) <| orc 17 f17_D f17_O (fun x ret => c17 x (fun y0 => ret y0)) <| orc 18 f18_D f18_O (fun x ret => c18 x (fun y0 => ret y0)) <| orc0
noncomputable def f4_E (k : Nat) (c12 : (Bool → R) → R) (c13 : PV → Int → (Bool → R) → R) (c14 : PV → PV → (Int → R) → R) (c15 : PV → (Int → R) → R) (c16 : PV → PV → (PV → R) → R) (c17 : PV → (PV → R) → R) (c18 : PV → (PV → R) → R) : Env := { P := Try.prog, nilOwn := fun d => false, fldOwn := fun d i => false, ownPar := ownPars, ownRet := false, mask := f4_msk, fuel := k, C := f4_C c12 c13 c14 c15 c16 c17 c18 }
noncomputable def f4_code : Code := Try.f4.body.getD .skip
noncomputable def f4_e (c12 : (Bool → R) → R) (c13 : PV → Int → (Bool → R) → R) (c14 : PV → PV → (Int → R) → R) (c15 : PV → (Int → R) → R) (c16 : PV → PV → (PV → R) → R) (c17 : PV → (PV → R) → R) (c18 : PV → (PV → R) → R) (ret0 : Bool → R) (p1 : PV) (p2 : PV) (p3 : PV) : R :=
  c12 fun b4 =>
  bif (!b4) then
    ret0 false
  else c13 p1 20 fun b5 =>
  bif (b5 == false) then
    c13 p2 20 fun b6 =>
    bif (b6 == false) then
      c13 p3 20 fun b7 =>
      bif (b7 == false) then
        c15 p1 fun n8 =>
        c15 p2 fun n9 =>
        bif (!(decide (n8 = n9))) then
          ret0 true
        else c14 p1 p2 fun n10 =>
        c16 p1 p3 fun p11 =>
        c16 p2 p3 fun p12 =>
        c14 p11 p12 fun n13 =>
        bif ((decide (n13 = n10)) == true) then
          c16 p3 p1 fun p14 =>
          c16 p3 p2 fun p15 =>
          c14 p14 p15 fun n16 =>
          bif ((decide (n16 = n10)) == true) then
            c17 p1 fun p17 =>
            c17 p2 fun p18 =>
            c14 p17 p18 fun n19 =>
            bif ((decide (n19 = n10)) == true) then
              c14 (PV.agg [(PV.int 6), (PV.int 0), (PV.list [p3, p1])]) (PV.agg [(PV.int 6), (PV.int 0), (PV.list [p3, p2])]) fun n20 =>
              bif ((decide (n20 = n10)) == true) then
                c17 p1 fun p21 =>
                c18 p2 fun p22 =>
                c14 p21 p22 fun n23 =>
                ret0 (decide (n23 = (-1 : Int)))
              else ret0 false
            else ret0 false
          else ret0 false
        else ret0 false
      else ret0 true
    else ret0 true
  else ret0 true

theorem f4_e_mem (k : Nat) (c12 : (Bool → R) → R) (c13 : PV → Int → (Bool → R) → R) (c14 : PV → PV → (Int → R) → R) (c15 : PV → (Int → R) → R) (c16 : PV → PV → (PV → R) → R) (c17 : PV → (PV → R) → R) (c18 : PV → (PV → R) → R) (retF : Bool → R) (p1 : PV) (p2 : PV) (p3 : PV) : exec (f4_E k c12 c13 c14 c15 c16 c17 c18) f4_code (endK (f4_E k c12 c13 c14 c15 c16 c17 c18) Try.f4 [] f4_un retF) ⟨[.val 24 p1, .val 24 p2, .val 24 p3, .undef, .undef, .undef, .undef, .undef, .undef, .undef, .undef, .undef, .undef, .undef, .undef, .undef, .undef, .undef, .undef, .undef, .undef, .undef, .undef, .undef, .undef, .undef, .undef, .undef, .undef, .undef, .undef, .undef, .undef, .undef, .undef, .undef, .undef, .undef, .undef, .undef, .undef, .undef, .undef, .undef, .undef, .undef, .undef, .undef, .undef, .undef, .undef, .undef, .undef, .undef, .undef, .undef, .undef, .undef, .undef, .undef, .undef, .undef, .undef, .undef, .undef, .undef, .undef, .undef, .undef, .undef, .undef, .undef, .undef, .undef, .undef, .undef, .undef, .undef, .undef, .undef, .undef, .undef, .undef, .undef, .undef, .undef, .undef, .undef], []⟩ = f4_e c12 c13 c14 c15 c16 c17 c18 (fun y0 => retF y0) p1 p2 p3 := by kernel_rfl

noncomputable def f4_N (k : Nat) (c12 : (Bool → R) → R) (c13 : PV → Int → (Bool → R) → R) (c14 : PV → PV → (Int → R) → R) (c15 : PV → (Int → R) → R) (c16 : PV → PV → (PV → R) → R) (c17 : PV → (PV → R) → R) (c18 : PV → (PV → R) → R) (ret0 : Bool → R) (p1 : PV) (p2 : PV) (p3 : PV) : R :=
  f4_e c12 c13 c14 c15 c16 c17 c18 ret0 p1 p2 p3
theorem f4_eq (k : Nat) (c12 : (Bool → R) → R) (c13 : PV → Int → (Bool → R) → R) (c14 : PV → PV → (Int → R) → R) (c15 : PV → (Int → R) → R) (c16 : PV → PV → (PV → R) → R) (c17 : PV → (PV → R) → R) (c18 : PV → (PV → R) → R) (retF : Bool → R) (p1 : PV) (p2 : PV) (p3 : PV) : exec (f4_E k c12 c13 c14 c15 c16 c17 c18) f4_code (endK (f4_E k c12 c13 c14 c15 c16 c17 c18) Try.f4 [] f4_un retF) ⟨[.val 24 p1, .val 24 p2, .val 24 p3, .undef, .undef, .undef, .undef, .undef, .undef, .undef, .undef, .undef, .undef, .undef, .undef, .undef, .undef, .undef, .undef, .undef, .undef, .undef, .undef, .undef, .undef, .undef, .undef, .undef, .undef, .undef, .undef, .undef, .undef, .undef, .undef, .undef, .undef, .undef, .undef, .undef, .undef, .undef, .undef, .undef, .undef, .undef, .undef, .undef, .undef, .undef, .undef, .undef, .undef, .undef, .undef, .undef, .undef, .undef, .undef, .undef, .undef, .undef, .undef, .undef, .undef, .undef, .undef, .undef, .undef, .undef, .undef, .undef, .undef, .undef, .undef, .undef, .undef, .undef, .undef, .undef, .undef, .undef, .undef, .undef, .undef, .undef, .undef, .undef], []⟩ = f4_N k c12 c13 c14 c15 c16 c17 c18 (fun y0 => retF y0) p1 p2 p3 :=
  (f4_e_mem k c12 c13 c14 c15 c16 c17 c18 retF p1 p2 p3)

noncomputable def G4 : Nat → PV → PV → PV → (Bool → R) → R
  | 0, _, _, _, _ => none
  | k + 1, p1, p2, p3, ret0 => f4_N k (G12 k) (G13 k) (G14 k) (G15 k) (G16 k) (G17 k) (G18 k) ret0 p1 p2 p3
theorem S4 : ∀ k, Snd Try.prog 4 f4_I f4_O (fun x ret => G4 k x.1 x.2.1 x.2.2 (fun y0 => ret y0))
  | 0 => snd_none
  | k + 1 => snd_step (E := f4_E k (G12 k) (G13 k) (G14 k) (G15 k) (G16 k) (G17 k) (G18 k)) rfl laidOut noNums (orc_ok (S12 k) f12_D_ok (orc_ok (S13 k) f13_D_ok (orc_ok (S14 k) f14_D_ok (orc_ok (S15 k) f15_D_ok (orc_ok (S16 k) f16_D_ok (orc_ok (S17 k) f17_D_ok (orc_ok (S18 k) f18_D_ok orc0_ok))))))) (f := 4) (fn := Try.f4) (code := f4_code) Try.func4 (by kernel_rfl) (drawsOk_of laidOut (orc_ok (S12 k) f12_D_ok (orc_ok (S13 k) f13_D_ok (orc_ok (S14 k) f14_D_ok (orc_ok (S15 k) f15_D_ok (orc_ok (S16 k) f16_D_ok (orc_ok (S17 k) f17_D_ok (orc_ok (S18 k) f18_D_ok orc0_ok))))))) mixed (by kernel_rfl)) f4_un f4_un_ok [] (fun _ => rfl)
      (fun x ret => f4_eq k (G12 k) (G13 k) (G14 k) (G15 k) (G16 k) (G17 k) (G18 k) ret x.1 x.2.1 x.2.2)

/- catchpole/rank.Best -/
noncomputable def f20_I : PV → List SV × Obs := fun x => ([.val 22 x], [])
noncomputable def f20_D : List SV → Obs → Option (PV)
  | [.val 22 p1], [] => some p1
  | _, _ => none
theorem f20_D_ok (args : List SV) (B : Obs) (x : PV) (h : f20_D args B = some x) : f20_I x = (args, B) := by
  unfold f20_D at h
  split at h
  · injection h with h; subst h; rfl
  · cases h
noncomputable def f20_O : Int × Bool → Out := (fun y => ([.int .i64 y.1, .bool y.2], []))
noncomputable def f20_un : Out → Option (Int × Bool)
  | ([.int .i64 y0, .bool y1], []) => some (y0, y1)
  | _ => none
theorem f20_un_ok (o : Out) (y : Int × Bool) (h : f20_un o = some y) : o = f20_O y := by
  unfold f20_un at h
  split at h
  · injection h with h; subst h; rfl
  · cases h
noncomputable def f20_msk : Nat → Option (List Nat) := fun key => bif key == 9 then some [0, 4, 7, 8, 9] else none
noncomputable def f20_C (c14 : PV → PV → (Int → R) → R) : Oracle := orc 14 f14_D f14_O (fun x ret => c14 x.1 x.2 (fun y0 => ret y0)) <| orc0
noncomputable def f20_E (k : Nat) (c14 : PV → PV → (Int → R) → R) : Env := { P := Try.prog, nilOwn := fun d => false, fldOwn := fun d i => false, ownPar := ownPars, ownRet := false, mask := f20_msk, fuel := k, C := f20_C c14 }
noncomputable def f20_code : Code := Try.f20.body.getD .skip
noncomputable def f20_cw1 : Code := subC f20_code [1, 1, 0, 1, 0, 0]
noncomputable def f20_hw1_0 (p1 : PV) (n5 : Int) (n6 : Int) : St := ⟨[.val 22 p1, .dead, .dead, .dead, .int .i64 n5, .dead, .dead, .val 22 p1, .int .i64 (List.length (PV.els p1) : Int), .int .i64 n6, .dead, .dead, .dead, .dead, .dead, .dead, .dead, .dead, .dead, .dead, .dead, .dead, .dead, .dead, .dead, .dead, .dead], []⟩
noncomputable def f20_w1A (k : Nat) (c14 : PV → PV → (Int → R) → R) (retF : Int × Bool → R) (p1 : PV) (n5 : Int) (n6 : Int) : R := loopM (f20_E k c14) f20_cw1 (kont (f20_E k c14) f20_code [1, 1, 0, 1, 0] (endK (f20_E k c14) Try.f20 [] f20_un retF)) k (f20_hw1_0 p1 n5 n6)
noncomputable def f20_w1b0 (c14 : PV → PV → (Int → R) → R) (ret0 : Int → Bool → R) (next_w1_0 : Int → Int → R) (p1 : PV) (n5 : Int) (n6 : Int) : R :=
  bif (decide (n6 < (List.length (PV.els p1) : Int))) then
    bif (true && decide ((0 : Int) ≤ n6) && decide (n6 < (List.length (PV.els p1) : Int))) then
      bif (true && decide ((0 : Int) ≤ n5) && decide (n5 < (List.length (PV.els p1) : Int))) then
        c14 (List.getD (PV.els p1) (n6).toNat PV.nil) (List.getD (PV.els p1) (n5).toNat PV.nil) fun n7 =>
        bif (decide (n7 < (0 : Int))) then
          next_w1_0 n6 (IntKind.wrap .i64 (n6 + (1 : Int)))
        else next_w1_0 n5 (IntKind.wrap .i64 (n6 + (1 : Int)))
      else none
    else none
  else ret0 n5 (decide ((0 : Int) < (List.length (PV.els p1) : Int)))

theorem f20_w1b0_mem (k : Nat) (c14 : PV → PV → (Int → R) → R) (retF : Int × Bool → R) (NX_w1 : St → R) (p1 : PV) (n5 : Int) (n6 : Int) : exec (f20_E k c14) f20_cw1 (purgeK (f20_E k c14) f20_cw1 (loopK NX_w1 (kont (f20_E k c14) f20_code [1, 1, 0, 1, 0] (endK (f20_E k c14) Try.f20 [] f20_un retF)))) (f20_hw1_0 p1 n5 n6) = f20_w1b0 c14 (fun y0 y1 => retF (y0, y1)) (fun n5 n6 => NX_w1 (f20_hw1_0 p1 n5 n6)) p1 n5 n6 := by kernel_rfl

noncomputable def f20_w1b0N (k : Nat) (c14 : PV → PV → (Int → R) → R) (ret0 : Int → Bool → R) (next_w1_0 : Int → Int → R) (p1 : PV) (n5 : Int) (n6 : Int) : R :=
  f20_w1b0 c14 ret0 next_w1_0 p1 n5 n6
theorem f20_w1b0_eq (k : Nat) (c14 : PV → PV → (Int → R) → R) (retF : Int × Bool → R) (NX_w1 : St → R) (p1 : PV) (n5 : Int) (n6 : Int) : exec (f20_E k c14) f20_cw1 (purgeK (f20_E k c14) f20_cw1 (loopK NX_w1 (kont (f20_E k c14) f20_code [1, 1, 0, 1, 0] (endK (f20_E k c14) Try.f20 [] f20_un retF)))) (f20_hw1_0 p1 n5 n6) = f20_w1b0N k c14 (fun y0 y1 => retF (y0, y1)) (fun n5 n6 => NX_w1 (f20_hw1_0 p1 n5 n6)) p1 n5 n6 :=
  (f20_w1b0_mem k c14 retF NX_w1 p1 n5 n6)

noncomputable def f20_w1B (k : Nat) (c14 : PV → PV → (Int → R) → R) (ret0 : Int → Bool → R) (p1 : PV) (nx : Int × Int → R) : Int × Int → R := (fun s => f20_w1b0N k c14 ret0 (fun n5 n6 => nx (n5, n6)) p1 s.1 s.2)
noncomputable def f20_w1N (k : Nat) (c14 : PV → PV → (Int → R) → R) (ret0 : Int → Bool → R) (p1 : PV) (n5 : Int) (n6 : Int) : R := loopR (f20_w1B k c14 ret0 p1) k (n5, n6)
theorem f20_w1_eq (k : Nat) (c14 : PV → PV → (Int → R) → R) (retF : Int × Bool → R) (p1 : PV) (n5 : Int) (n6 : Int) : f20_w1A k c14 retF p1 n5 n6 = f20_w1N k c14 (fun y0 y1 => retF (y0, y1)) p1 n5 n6 :=
  Eq.mp (by kernel_rfl) (loop_sim (E := (f20_E k c14)) (c := f20_cw1) (K := (kont (f20_E k c14) f20_code [1, 1, 0, 1, 0] (endK (f20_E k c14) Try.f20 [] f20_un retF))) (S := Int × Int) (fun s => f20_hw1_0 p1 s.1 s.2) (f20_w1B k c14 (fun y0 y1 => retF (y0, y1)) p1) (fun NX s => by
    exact Eq.mp (by kernel_rfl) (f20_w1b0_eq k c14 retF NX p1 s.1 s.2)) k (n5, n6))

noncomputable def f20_e (c14 : PV → PV → (Int → R) → R) (ret0 : Int → Bool → R) (w1 : Int → Int → R) (p1 : PV) : R :=
  w1 0 0

theorem f20_e_mem (k : Nat) (c14 : PV → PV → (Int → R) → R) (retF : Int × Bool → R) (p1 : PV) : exec (f20_E k c14) f20_code (endK (f20_E k c14) Try.f20 [] f20_un retF) ⟨[.val 22 p1, .undef, .undef, .undef, .undef, .undef, .undef, .undef, .undef, .undef, .undef, .undef, .undef, .undef, .undef, .undef, .undef, .undef, .undef, .undef, .undef, .undef, .undef, .undef, .undef, .undef, .undef], []⟩ = f20_e c14 (fun y0 y1 => retF (y0, y1)) (fun n5 n6 => f20_w1A k c14 retF p1 n5 n6) p1 := by kernel_rfl

noncomputable def f20_N (k : Nat) (c14 : PV → PV → (Int → R) → R) (ret0 : Int → Bool → R) (p1 : PV) : R :=
  f20_e c14 ret0 (fun n5 n6 => f20_w1N k c14 ret0 p1 n5 n6) p1
theorem f20_eq (k : Nat) (c14 : PV → PV → (Int → R) → R) (retF : Int × Bool → R) (p1 : PV) : exec (f20_E k c14) f20_code (endK (f20_E k c14) Try.f20 [] f20_un retF) ⟨[.val 22 p1, .undef, .undef, .undef, .undef, .undef, .undef, .undef, .undef, .undef, .undef, .undef, .undef, .undef, .undef, .undef, .undef, .undef, .undef, .undef, .undef, .undef, .undef, .undef, .undef, .undef, .undef], []⟩ = f20_N k c14 (fun y0 y1 => retF (y0, y1)) p1 :=
  (f20_e_mem k c14 retF p1).trans (by rw [show (fun n5 n6 => f20_w1A k c14 retF p1 n5 n6) = (fun n5 n6 => f20_w1N k c14 (fun y0 y1 => retF (y0, y1)) p1 n5 n6) from funext fun n5 => funext fun n6 => f20_w1_eq k c14 retF p1 n5 n6]; rfl)

noncomputable def G20 : Nat → PV → (Int → Bool → R) → R
  | 0, _, _ => none
  | k + 1, p1, ret0 => f20_N k (G14 k) ret0 p1
theorem S20 : ∀ k, Snd Try.prog 20 f20_I f20_O (fun x ret => G20 k x (fun y0 y1 => ret (y0, y1)))
  | 0 => snd_none
  | k + 1 => snd_step (E := f20_E k (G14 k)) rfl laidOut noNums (orc_ok (S14 k) f14_D_ok orc0_ok) (f := 20) (fn := Try.f20) (code := f20_code) Try.func20 (by kernel_rfl) (drawsOk_of laidOut (orc_ok (S14 k) f14_D_ok orc0_ok) mixed (by kernel_rfl)) f20_un f20_un_ok [] (fun _ => rfl)
      (fun x ret => f20_eq k (G14 k) ret x)

/- catchpole/catchpolelaw13.valueOf -/
noncomputable def f22_I : PV → List SV × Obs := fun x => ([.val 24 x], [])
noncomputable def f22_D : List SV → Obs → Option (PV)
  | [.val 24 p1], [] => some p1
  | _, _ => none
theorem f22_D_ok (args : List SV) (B : Obs) (x : PV) (h : f22_D args B = some x) : f22_I x = (args, B) := by
  unfold f22_D at h
  split at h
  · injection h with h; subst h; rfl
  · cases h
noncomputable def f22_O : PV → Out := (fun y => ([.val 38 y], []))
noncomputable def f22_un : Out → Option (PV)
  | ([.val 38 y0], []) => some y0
  | _ => none
theorem f22_un_ok (o : Out) (y : PV) (h : f22_un o = some y) : o = f22_O y := by
  unfold f22_un at h
  split at h
  · injection h with h; subst h; rfl
  · cases h
noncomputable def f22_msk : Nat → Option (List Nat) := fun key => bif key == 9 then some [1, 2, 3, 4] else none
noncomputable def f22_C (c22 : PV → (PV → R) → R) : Oracle := orc 22 f22_D f22_O (fun x ret => c22 x (fun y0 => ret y0)) <| orc0
noncomputable def f22_E (k : Nat) (c22 : PV → (PV → R) → R) : Env := { P := Try.prog, nilOwn := fun d => false, fldOwn := fun d i => (d == 9 && i == 2), ownPar := ownPars, ownRet := false, mask := f22_msk, fuel := k, C := f22_C c22 }
noncomputable def f22_code : Code := Try.f22.body.getD .skip
noncomputable def f22_cw1 : Code := subC f22_code [1, 1, 0, 1, 0, 0]
noncomputable def f22_hw1_0 (p1 : PV) : St := ⟨[.dead, .ptr 1 [], .ptr 2 [], .ptr 3 [], .int .i64 0, .dead, .dead, .dead, .dead, .dead, .dead, .dead, .dead, .dead, .dead, .dead, .dead, .dead, .dead, .dead, .dead, .dead, .dead, .dead, .dead, .dead, .dead, .dead, .dead], [(1, .box 24 (.val 24 p1)), (2, .box 38 (.val 38 (PV.agg [(PV.int 0), (PV.int 0), (PV.list [])]))), (3, .box 38 (.agg 38 [.int .i64 (PV.num (PV.fld p1 0)), .int .u8 (PV.num (PV.fld p1 1)), .nils]))]⟩
noncomputable def f22_hw1_1 (p1 : PV) (n7 : Int) (l8 : List PV) : St := ⟨[.dead, .ptr 1 [], .ptr 2 [], .ptr 3 [], .int .i64 n7, .dead, .dead, .dead, .dead, .dead, .dead, .dead, .dead, .dead, .dead, .dead, .dead, .dead, .dead, .dead, .dead, .dead, .dead, .dead, .dead, .dead, .dead, .dead, .dead], [(1, .box 24 (.val 24 p1)), (2, .box 38 (.val 38 (PV.agg [(PV.int 0), (PV.int 0), (PV.list [])]))), (3, .box 38 (.agg 38 [.int .i64 (PV.num (PV.fld p1 0)), .int .u8 (PV.num (PV.fld p1 1)), .own 36 26])), (26, .row 38 l8)]⟩
noncomputable def f22_w1A (k : Nat) (c22 : PV → (PV → R) → R) (retF : PV → R) (p1 : PV) : R := loopM (f22_E k c22) f22_cw1 (kont (f22_E k c22) f22_code [1, 1, 0, 1, 0] (endK (f22_E k c22) Try.f22 [] f22_un retF)) k (f22_hw1_0 p1)
noncomputable def f22_w1b0 (c22 : PV → (PV → R) → R) (ret0 : PV → R) (next_w1_0 : Unit → R) (next_w1_1 : Int → (List PV) → R) (p1 : PV) : R :=
  bif (decide ((0 : Int) < (List.length (PV.els (PV.fld p1 2)) : Int))) then
    bif (true && decide ((0 : Int) ≤ (0 : Int)) && decide ((0 : Int) < (List.length (PV.els (PV.fld p1 2)) : Int))) then
      c22 (List.getD (PV.els (PV.fld p1 2)) ((0 : Int)).toNat PV.nil) fun p6 =>
      next_w1_1 1 [p6]
    else none
  else ret0 (PV.agg [(PV.int (PV.num (PV.fld p1 0))), (PV.int (PV.num (PV.fld p1 1))), (PV.list [])])

theorem f22_w1b0_mem (k : Nat) (c22 : PV → (PV → R) → R) (retF : PV → R) (NX_w1 : St → R) (p1 : PV) : exec (f22_E k c22) f22_cw1 (purgeK (f22_E k c22) f22_cw1 (loopK NX_w1 (kont (f22_E k c22) f22_code [1, 1, 0, 1, 0] (endK (f22_E k c22) Try.f22 [] f22_un retF)))) (f22_hw1_0 p1) = f22_w1b0 c22 (fun y0 => retF y0) (fun _ => NX_w1 (f22_hw1_0 p1)) (fun n7 l8 => NX_w1 (f22_hw1_1 p1 n7 l8)) p1 := by kernel_rfl

noncomputable def f22_w1b0N (k : Nat) (c22 : PV → (PV → R) → R) (ret0 : PV → R) (next_w1_0 : Unit → R) (next_w1_1 : Int → (List PV) → R) (p1 : PV) : R :=
  f22_w1b0 c22 ret0 next_w1_0 next_w1_1 p1
theorem f22_w1b0_eq (k : Nat) (c22 : PV → (PV → R) → R) (retF : PV → R) (NX_w1 : St → R) (p1 : PV) : exec (f22_E k c22) f22_cw1 (purgeK (f22_E k c22) f22_cw1 (loopK NX_w1 (kont (f22_E k c22) f22_code [1, 1, 0, 1, 0] (endK (f22_E k c22) Try.f22 [] f22_un retF)))) (f22_hw1_0 p1) = f22_w1b0N k c22 (fun y0 => retF y0) (fun _ => NX_w1 (f22_hw1_0 p1)) (fun n7 l8 => NX_w1 (f22_hw1_1 p1 n7 l8)) p1 :=
  (f22_w1b0_mem k c22 retF NX_w1 p1)

noncomputable def f22_w1b1 (c22 : PV → (PV → R) → R) (ret0 : PV → R) (next_w1_0 : Unit → R) (next_w1_1 : Int → (List PV) → R) (p1 : PV) (n7 : Int) (l8 : List PV) : R :=
  bif (decide (n7 < (List.length (PV.els (PV.fld p1 2)) : Int))) then
    bif (true && decide ((0 : Int) ≤ n7) && decide (n7 < (List.length (PV.els (PV.fld p1 2)) : Int))) then
      c22 (List.getD (PV.els (PV.fld p1 2)) (n7).toNat PV.nil) fun p9 =>
      bif (true && roomy (List.length l8 + List.length [p9]) 40) then
        next_w1_1 (IntKind.wrap .i64 (n7 + (1 : Int))) (l8 ++ [p9])
      else none
    else none
  else ret0 (PV.agg [(PV.int (PV.num (PV.fld p1 0))), (PV.int (PV.num (PV.fld p1 1))), (PV.list l8)])

theorem f22_w1b1_mem (k : Nat) (c22 : PV → (PV → R) → R) (retF : PV → R) (NX_w1 : St → R) (p1 : PV) (n7 : Int) (l8 : List PV) : exec (f22_E k c22) f22_cw1 (purgeK (f22_E k c22) f22_cw1 (loopK NX_w1 (kont (f22_E k c22) f22_code [1, 1, 0, 1, 0] (endK (f22_E k c22) Try.f22 [] f22_un retF)))) (f22_hw1_1 p1 n7 l8) = f22_w1b1 c22 (fun y0 => retF y0) (fun _ => NX_w1 (f22_hw1_0 p1)) (fun n7 l8 => NX_w1 (f22_hw1_1 p1 n7 l8)) p1 n7 l8 := by kernel_rfl

noncomputable def f22_w1b1N (k : Nat) (c22 : PV → (PV → R) → R) (ret0 : PV → R) (next_w1_0 : Unit → R) (next_w1_1 : Int → (List PV) → R) (p1 : PV) (n7 : Int) (l8 : List PV) : R :=
  f22_w1b1 c22 ret0 next_w1_0 next_w1_1 p1 n7 l8
theorem f22_w1b1_eq (k : Nat) (c22 : PV → (PV → R) → R) (retF : PV → R) (NX_w1 : St → R) (p1 : PV) (n7 : Int) (l8 : List PV) : exec (f22_E k c22) f22_cw1 (purgeK (f22_E k c22) f22_cw1 (loopK NX_w1 (kont (f22_E k c22) f22_code [1, 1, 0, 1, 0] (endK (f22_E k c22) Try.f22 [] f22_un retF)))) (f22_hw1_1 p1 n7 l8) = f22_w1b1N k c22 (fun y0 => retF y0) (fun _ => NX_w1 (f22_hw1_0 p1)) (fun n7 l8 => NX_w1 (f22_hw1_1 p1 n7 l8)) p1 n7 l8 :=
  (f22_w1b1_mem k c22 retF NX_w1 p1 n7 l8)

noncomputable def f22_w1B (k : Nat) (c22 : PV → (PV → R) → R) (ret0 : PV → R) (p1 : PV) (nx : Sum (Unit) (Int × (List PV)) → R) : Sum (Unit) (Int × (List PV)) → R := (Sum.elim (fun s => f22_w1b0N k c22 ret0 (fun _ => nx (.inl ())) (fun n7 l8 => nx (.inr (n7, l8))) p1) (fun s => f22_w1b1N k c22 ret0 (fun _ => nx (.inl ())) (fun n7 l8 => nx (.inr (n7, l8))) p1 s.1 s.2))
noncomputable def f22_w1N (k : Nat) (c22 : PV → (PV → R) → R) (ret0 : PV → R) (p1 : PV) : R := loopR (f22_w1B k c22 ret0 p1) k (.inl ())
theorem f22_w1_eq (k : Nat) (c22 : PV → (PV → R) → R) (retF : PV → R) (p1 : PV) : f22_w1A k c22 retF p1 = f22_w1N k c22 (fun y0 => retF y0) p1 :=
  Eq.mp (by kernel_rfl) (loop_sim (E := (f22_E k c22)) (c := f22_cw1) (K := (kont (f22_E k c22) f22_code [1, 1, 0, 1, 0] (endK (f22_E k c22) Try.f22 [] f22_un retF))) (S := Sum (Unit) (Int × (List PV))) (Sum.elim (fun s => f22_hw1_0 p1) (fun s => f22_hw1_1 p1 s.1 s.2)) (f22_w1B k c22 (fun y0 => retF y0) p1) (fun NX s => by
    cases s with
    | inl s => exact Eq.mp (by kernel_rfl) (f22_w1b0_eq k c22 retF NX p1)
    | inr s =>
      exact Eq.mp (by kernel_rfl) (f22_w1b1_eq k c22 retF NX p1 s.1 s.2)) k (.inl ()))

noncomputable def f22_e (c22 : PV → (PV → R) → R) (ret0 : PV → R) (w1 : Unit → R) (p1 : PV) : R :=
  w1 ()

theorem f22_e_mem (k : Nat) (c22 : PV → (PV → R) → R) (retF : PV → R) (p1 : PV) : exec (f22_E k c22) f22_code (endK (f22_E k c22) Try.f22 [] f22_un retF) ⟨[.val 24 p1, .undef, .undef, .undef, .undef, .undef, .undef, .undef, .undef, .undef, .undef, .undef, .undef, .undef, .undef, .undef, .undef, .undef, .undef, .undef, .undef, .undef, .undef, .undef, .undef, .undef, .undef, .undef, .undef], []⟩ = f22_e c22 (fun y0 => retF y0) (fun _ => f22_w1A k c22 retF p1) p1 := by kernel_rfl

noncomputable def f22_N (k : Nat) (c22 : PV → (PV → R) → R) (ret0 : PV → R) (p1 : PV) : R :=
  f22_e c22 ret0 (fun _ => f22_w1N k c22 ret0 p1) p1
theorem f22_eq (k : Nat) (c22 : PV → (PV → R) → R) (retF : PV → R) (p1 : PV) : exec (f22_E k c22) f22_code (endK (f22_E k c22) Try.f22 [] f22_un retF) ⟨[.val 24 p1, .undef, .undef, .undef, .undef, .undef, .undef, .undef, .undef, .undef, .undef, .undef, .undef, .undef, .undef, .undef, .undef, .undef, .undef, .undef, .undef, .undef, .undef, .undef, .undef, .undef, .undef, .undef, .undef], []⟩ = f22_N k c22 (fun y0 => retF y0) p1 :=
  (f22_e_mem k c22 retF p1).trans (by rw [show (fun _ => f22_w1A k c22 retF p1) = (fun _ => f22_w1N k c22 (fun y0 => retF y0) p1) from funext fun _ => f22_w1_eq k c22 retF p1]; rfl)

noncomputable def G22 : Nat → PV → (PV → R) → R
  | 0, _, _ => none
  | k + 1, p1, ret0 => f22_N k (G22 k) ret0 p1
theorem S22 : ∀ k, Snd Try.prog 22 f22_I f22_O (fun x ret => G22 k x (fun y0 => ret y0))
  | 0 => snd_none
  | k + 1 => snd_step (E := f22_E k (G22 k)) rfl laidOut noNums (orc_ok (S22 k) f22_D_ok orc0_ok) (f := 22) (fn := Try.f22) (code := f22_code) Try.func22 (by kernel_rfl) (drawsOk_of laidOut (orc_ok (S22 k) f22_D_ok orc0_ok) mixed (by kernel_rfl)) f22_un f22_un_ok [] (fun _ => rfl)
      (fun x ret => f22_eq k (G22 k) ret x)

/- catchpole/catchpoleref8.counts -/
noncomputable def f41_I : PV → List SV × Obs := fun x => ([.val 38 x], [])
noncomputable def f41_D : List SV → Obs → Option (PV)
  | [.val 38 p1], [] => some p1
  | _, _ => none
theorem f41_D_ok (args : List SV) (B : Obs) (x : PV) (h : f41_D args B = some x) : f41_I x = (args, B) := by
  unfold f41_D at h
  split at h
  · injection h with h; subst h; rfl
  · cases h
noncomputable def f41_O : PV → Out := (fun y => ([.val 36 y], []))
noncomputable def f41_un : Out → Option (PV)
  | ([.val 36 y0], []) => some y0
  | _ => none
theorem f41_un_ok (o : Out) (y : PV) (h : f41_un o = some y) : o = f41_O y := by
  unfold f41_un at h
  split at h
  · injection h with h; subst h; rfl
  · cases h
noncomputable def f41_msk : Nat → Option (List Nat) := fun key =>  none
noncomputable def f41_C : Oracle := orc0
noncomputable def f41_E (k : Nat) : Env := { P := Try.prog, nilOwn := fun d => false, fldOwn := fun d i => false, ownPar := ownPars, ownRet := false, mask := f41_msk, fuel := k, C := f41_C }
noncomputable def f41_code : Code := Try.f41.body.getD .skip
noncomputable def f41_e (ret0 : PV → R) (p1 : PV) : R :=
  bif (decide ((PV.num (PV.fld p1 0)) = (3 : Int))) then
    bif (decide ((List.length (PV.els (PV.fld p1 2)) : Int) < (2 : Int))) then
      bif (decide ((0 : Int) ≤ (0 : Int)) && decide ((0 : Int) ≤ (List.length (PV.els (PV.fld p1 2)) : Int)) && decide ((List.length (PV.els (PV.fld p1 2)) : Int) ≤ (List.length (PV.els (PV.fld p1 2)) : Int))) then
        ret0 (PV.list (List.drop ((0 : Int)).toNat (List.take ((List.length (PV.els (PV.fld p1 2)) : Int)).toNat (PV.els (PV.fld p1 2)))))
      else none
    else bif (decide ((0 : Int) ≤ (0 : Int)) && decide ((0 : Int) ≤ (2 : Int)) && decide ((2 : Int) ≤ (List.length (PV.els (PV.fld p1 2)) : Int))) then
      ret0 (PV.list (List.drop ((0 : Int)).toNat (List.take ((2 : Int)).toNat (PV.els (PV.fld p1 2)))))
    else none
  else bif (decide ((PV.num (PV.fld p1 0)) = (4 : Int))) then
    bif (decide ((List.length (PV.els (PV.fld p1 2)) : Int) < (1 : Int))) then
      bif (decide ((0 : Int) ≤ (0 : Int)) && decide ((0 : Int) ≤ (List.length (PV.els (PV.fld p1 2)) : Int)) && decide ((List.length (PV.els (PV.fld p1 2)) : Int) ≤ (List.length (PV.els (PV.fld p1 2)) : Int))) then
        ret0 (PV.list (List.drop ((0 : Int)).toNat (List.take ((List.length (PV.els (PV.fld p1 2)) : Int)).toNat (PV.els (PV.fld p1 2)))))
      else none
    else bif (decide ((0 : Int) ≤ (0 : Int)) && decide ((0 : Int) ≤ (1 : Int)) && decide ((1 : Int) ≤ (List.length (PV.els (PV.fld p1 2)) : Int))) then
      ret0 (PV.list (List.drop ((0 : Int)).toNat (List.take ((1 : Int)).toNat (PV.els (PV.fld p1 2)))))
    else none
  else bif (decide ((PV.num (PV.fld p1 0)) = (5 : Int))) then
    bif (decide ((List.length (PV.els (PV.fld p1 2)) : Int) < (1 : Int))) then
      bif (decide ((0 : Int) ≤ (0 : Int)) && decide ((0 : Int) ≤ (List.length (PV.els (PV.fld p1 2)) : Int)) && decide ((List.length (PV.els (PV.fld p1 2)) : Int) ≤ (List.length (PV.els (PV.fld p1 2)) : Int))) then
        ret0 (PV.list (List.drop ((0 : Int)).toNat (List.take ((List.length (PV.els (PV.fld p1 2)) : Int)).toNat (PV.els (PV.fld p1 2)))))
      else none
    else bif (decide ((0 : Int) ≤ (0 : Int)) && decide ((0 : Int) ≤ (1 : Int)) && decide ((1 : Int) ≤ (List.length (PV.els (PV.fld p1 2)) : Int))) then
      ret0 (PV.list (List.drop ((0 : Int)).toNat (List.take ((1 : Int)).toNat (PV.els (PV.fld p1 2)))))
    else none
  else bif (decide ((PV.num (PV.fld p1 0)) = (7 : Int))) then
    bif (decide ((List.length (PV.els (PV.fld p1 2)) : Int) < (1 : Int))) then
      bif (decide ((0 : Int) ≤ (0 : Int)) && decide ((0 : Int) ≤ (List.length (PV.els (PV.fld p1 2)) : Int)) && decide ((List.length (PV.els (PV.fld p1 2)) : Int) ≤ (List.length (PV.els (PV.fld p1 2)) : Int))) then
        ret0 (PV.list (List.drop ((0 : Int)).toNat (List.take ((List.length (PV.els (PV.fld p1 2)) : Int)).toNat (PV.els (PV.fld p1 2)))))
      else none
    else bif (decide ((0 : Int) ≤ (0 : Int)) && decide ((0 : Int) ≤ (1 : Int)) && decide ((1 : Int) ≤ (List.length (PV.els (PV.fld p1 2)) : Int))) then
      ret0 (PV.list (List.drop ((0 : Int)).toNat (List.take ((1 : Int)).toNat (PV.els (PV.fld p1 2)))))
    else none
  else bif (decide ((PV.num (PV.fld p1 0)) = (6 : Int))) then
    bif (decide ((List.length (PV.els (PV.fld p1 2)) : Int) < (List.length (PV.els (PV.fld p1 2)) : Int))) then
      bif (decide ((0 : Int) ≤ (0 : Int)) && decide ((0 : Int) ≤ (List.length (PV.els (PV.fld p1 2)) : Int)) && decide ((List.length (PV.els (PV.fld p1 2)) : Int) ≤ (List.length (PV.els (PV.fld p1 2)) : Int))) then
        ret0 (PV.list (List.drop ((0 : Int)).toNat (List.take ((List.length (PV.els (PV.fld p1 2)) : Int)).toNat (PV.els (PV.fld p1 2)))))
      else none
    else bif (decide ((0 : Int) ≤ (0 : Int)) && decide ((0 : Int) ≤ (List.length (PV.els (PV.fld p1 2)) : Int)) && decide ((List.length (PV.els (PV.fld p1 2)) : Int) ≤ (List.length (PV.els (PV.fld p1 2)) : Int))) then
      ret0 (PV.list (List.drop ((0 : Int)).toNat (List.take ((List.length (PV.els (PV.fld p1 2)) : Int)).toNat (PV.els (PV.fld p1 2)))))
    else none
  else bif (decide ((List.length (PV.els (PV.fld p1 2)) : Int) < (0 : Int))) then
    bif (decide ((0 : Int) ≤ (0 : Int)) && decide ((0 : Int) ≤ (List.length (PV.els (PV.fld p1 2)) : Int)) && decide ((List.length (PV.els (PV.fld p1 2)) : Int) ≤ (List.length (PV.els (PV.fld p1 2)) : Int))) then
      ret0 (PV.list (List.drop ((0 : Int)).toNat (List.take ((List.length (PV.els (PV.fld p1 2)) : Int)).toNat (PV.els (PV.fld p1 2)))))
    else none
  else bif (decide ((0 : Int) ≤ (0 : Int)) && decide ((0 : Int) ≤ (0 : Int)) && decide ((0 : Int) ≤ (List.length (PV.els (PV.fld p1 2)) : Int))) then
    ret0 (PV.list (List.drop ((0 : Int)).toNat (List.take ((0 : Int)).toNat (PV.els (PV.fld p1 2)))))
  else none

theorem f41_e_mem (k : Nat) (retF : PV → R) (p1 : PV) : exec (f41_E k) f41_code (endK (f41_E k) Try.f41 [] f41_un retF) ⟨[.val 38 p1, .undef, .undef, .undef, .undef, .undef, .undef, .undef, .undef, .undef, .undef, .undef, .undef, .undef, .undef, .undef, .undef, .undef, .undef, .undef, .undef, .undef, .undef, .undef, .undef, .undef, .undef, .undef, .undef], []⟩ = f41_e (fun y0 => retF y0) p1 := by kernel_rfl

noncomputable def f41_N (k : Nat) (ret0 : PV → R) (p1 : PV) : R :=
  f41_e ret0 p1
theorem f41_eq (k : Nat) (retF : PV → R) (p1 : PV) : exec (f41_E k) f41_code (endK (f41_E k) Try.f41 [] f41_un retF) ⟨[.val 38 p1, .undef, .undef, .undef, .undef, .undef, .undef, .undef, .undef, .undef, .undef, .undef, .undef, .undef, .undef, .undef, .undef, .undef, .undef, .undef, .undef, .undef, .undef, .undef, .undef, .undef, .undef, .undef, .undef], []⟩ = f41_N k (fun y0 => retF y0) p1 :=
  (f41_e_mem k retF p1)

noncomputable def G41 : Nat → PV → (PV → R) → R
  | 0, _, _ => none
  | k + 1, p1, ret0 => f41_N k  ret0 p1
theorem S41 : ∀ k, Snd Try.prog 41 f41_I f41_O (fun x ret => G41 k x (fun y0 => ret y0))
  | 0 => snd_none
  | k + 1 => snd_step (E := f41_E k ) rfl laidOut noNums orc0_ok (f := 41) (fn := Try.f41) (code := f41_code) Try.func41 (by kernel_rfl) (drawsOk_of laidOut orc0_ok mixed (by kernel_rfl)) f41_un f41_un_ok [] (fun _ => rfl)
      (fun x ret => f41_eq k  ret x)

/- catchpole/catchpoleref8.Flat -/
noncomputable def f39_I : PV → List SV × Obs := fun x => ([.val 38 x], [])
noncomputable def f39_D : List SV → Obs → Option (PV)
  | [.val 38 p1], [] => some p1
  | _, _ => none
theorem f39_D_ok (args : List SV) (B : Obs) (x : PV) (h : f39_D args B = some x) : f39_I x = (args, B) := by
  unfold f39_D at h
  split at h
  · injection h with h; subst h; rfl
  · cases h
noncomputable def f39_O : PV → Out := (fun y => ([.val 47 y], []))
noncomputable def f39_un : Out → Option (PV)
  | ([.val 47 y0], []) => some y0
  | _ => none
theorem f39_un_ok (o : Out) (y : PV) (h : f39_un o = some y) : o = f39_O y := by
  unfold f39_un at h
  split at h
  · injection h with h; subst h; rfl
  · cases h
noncomputable def f39_msk : Nat → Option (List Nat) := fun key => bif key == 18 then some [3, 4, 5] else none
noncomputable def f39_C (c39 : PV → (PV → R) → R) (c41 : PV → (PV → R) → R) : Oracle := orc 39 f39_D f39_O (fun x ret => c39 x (fun y0 => ret y0)) <| orc 41 f41_D f41_O (fun x ret => c41 x (fun y0 => ret y0)) <| orc0
noncomputable def f39_E (k : Nat) (c39 : PV → (PV → R) → R) (c41 : PV → (PV → R) → R) : Env := { P := Try.prog, nilOwn := fun d => d == 3, fldOwn := fun d i => false, ownPar := ownPars, ownRet := false, mask := f39_msk, fuel := k, C := f39_C c39 c41 }
noncomputable def f39_code : Code := Try.f39.body.getD .skip
noncomputable def f39_cw1 : Code := subC f39_code [1, 1, 1, 1, 0, 1, 0, 0]
noncomputable def f39_hw1_0 (p2 : PV) (n4 : Int) (l5 : List PV) : St := ⟨[.dead, .dead, .dead, .own 47 3, .val 36 p2, .int .i64 n4, .dead, .dead, .dead, .dead, .dead, .dead, .dead, .dead, .dead, .dead, .dead, .dead, .dead, .dead, .dead, .dead, .dead, .dead, .dead, .dead, .dead, .dead], [(3, .row 5 l5)]⟩
noncomputable def f39_w1A (k : Nat) (c39 : PV → (PV → R) → R) (c41 : PV → (PV → R) → R) (retF : PV → R) (p2 : PV) (n4 : Int) (l5 : List PV) : R := loopM (f39_E k c39 c41) f39_cw1 (kont (f39_E k c39 c41) f39_code [1, 1, 1, 1, 0, 1, 0] (endK (f39_E k c39 c41) Try.f39 [] f39_un retF)) k (f39_hw1_0 p2 n4 l5)
noncomputable def f39_w1b0 (c39 : PV → (PV → R) → R) (c41 : PV → (PV → R) → R) (ret0 : PV → R) (next_w1_0 : Int → (List PV) → R) (p2 : PV) (n4 : Int) (l5 : List PV) : R :=
  bif (decide (n4 < (List.length (PV.els p2) : Int))) then
    bif (true && decide ((0 : Int) ≤ n4) && decide (n4 < (List.length (PV.els p2) : Int))) then
      c39 (List.getD (PV.els p2) (n4).toNat PV.nil) fun p6 =>
      bif (true && roomy (List.length l5 + List.length (PV.els p6)) 1) then
        next_w1_0 (IntKind.wrap .i64 (n4 + (1 : Int))) (l5 ++ (PV.els p6))
      else none
    else none
  else ret0 (PV.list l5)

theorem f39_w1b0_mem (k : Nat) (c39 : PV → (PV → R) → R) (c41 : PV → (PV → R) → R) (retF : PV → R) (NX_w1 : St → R) (p2 : PV) (n4 : Int) (l5 : List PV) : exec (f39_E k c39 c41) f39_cw1 (purgeK (f39_E k c39 c41) f39_cw1 (loopK NX_w1 (kont (f39_E k c39 c41) f39_code [1, 1, 1, 1, 0, 1, 0] (endK (f39_E k c39 c41) Try.f39 [] f39_un retF)))) (f39_hw1_0 p2 n4 l5) = f39_w1b0 c39 c41 (fun y0 => retF y0) (fun n4 l5 => NX_w1 (f39_hw1_0 p2 n4 l5)) p2 n4 l5 := by kernel_rfl

noncomputable def f39_w1b0N (k : Nat) (c39 : PV → (PV → R) → R) (c41 : PV → (PV → R) → R) (ret0 : PV → R) (next_w1_0 : Int → (List PV) → R) (p2 : PV) (n4 : Int) (l5 : List PV) : R :=
  f39_w1b0 c39 c41 ret0 next_w1_0 p2 n4 l5
theorem f39_w1b0_eq (k : Nat) (c39 : PV → (PV → R) → R) (c41 : PV → (PV → R) → R) (retF : PV → R) (NX_w1 : St → R) (p2 : PV) (n4 : Int) (l5 : List PV) : exec (f39_E k c39 c41) f39_cw1 (purgeK (f39_E k c39 c41) f39_cw1 (loopK NX_w1 (kont (f39_E k c39 c41) f39_code [1, 1, 1, 1, 0, 1, 0] (endK (f39_E k c39 c41) Try.f39 [] f39_un retF)))) (f39_hw1_0 p2 n4 l5) = f39_w1b0N k c39 c41 (fun y0 => retF y0) (fun n4 l5 => NX_w1 (f39_hw1_0 p2 n4 l5)) p2 n4 l5 :=
  (f39_w1b0_mem k c39 c41 retF NX_w1 p2 n4 l5)

noncomputable def f39_w1B (k : Nat) (c39 : PV → (PV → R) → R) (c41 : PV → (PV → R) → R) (ret0 : PV → R) (p2 : PV) (nx : Int × (List PV) → R) : Int × (List PV) → R := (fun s => f39_w1b0N k c39 c41 ret0 (fun n4 l5 => nx (n4, l5)) p2 s.1 s.2)
noncomputable def f39_w1N (k : Nat) (c39 : PV → (PV → R) → R) (c41 : PV → (PV → R) → R) (ret0 : PV → R) (p2 : PV) (n4 : Int) (l5 : List PV) : R := loopR (f39_w1B k c39 c41 ret0 p2) k (n4, l5)
theorem f39_w1_eq (k : Nat) (c39 : PV → (PV → R) → R) (c41 : PV → (PV → R) → R) (retF : PV → R) (p2 : PV) (n4 : Int) (l5 : List PV) : f39_w1A k c39 c41 retF p2 n4 l5 = f39_w1N k c39 c41 (fun y0 => retF y0) p2 n4 l5 :=
  Eq.mp (by kernel_rfl) (loop_sim (E := (f39_E k c39 c41)) (c := f39_cw1) (K := (kont (f39_E k c39 c41) f39_code [1, 1, 1, 1, 0, 1, 0] (endK (f39_E k c39 c41) Try.f39 [] f39_un retF))) (S := Int × (List PV)) (fun s => f39_hw1_0 p2 s.1 s.2) (f39_w1B k c39 c41 (fun y0 => retF y0) p2) (fun NX s => by
    exact Eq.mp (by kernel_rfl) (f39_w1b0_eq k c39 c41 retF NX p2 s.1 s.2)) k (n4, l5))

noncomputable def f39_e (c39 : PV → (PV → R) → R) (c41 : PV → (PV → R) → R) (ret0 : PV → R) (w1 : PV → Int → (List PV) → R) (p1 : PV) : R :=
  bif (decide ((PV.num (PV.fld p1 0)) = (2 : Int))) then
    ret0 (PV.list [(PV.int (PV.num (PV.fld p1 1)))])
  else c41 p1 fun p2 =>
  w1 p2 0 []

theorem f39_e_mem (k : Nat) (c39 : PV → (PV → R) → R) (c41 : PV → (PV → R) → R) (retF : PV → R) (p1 : PV) : exec (f39_E k c39 c41) f39_code (endK (f39_E k c39 c41) Try.f39 [] f39_un retF) ⟨[.val 38 p1, .undef, .undef, .undef, .undef, .undef, .undef, .undef, .undef, .undef, .undef, .undef, .undef, .undef, .undef, .undef, .undef, .undef, .undef, .undef, .undef, .undef, .undef, .undef, .undef, .undef, .undef, .undef], []⟩ = f39_e c39 c41 (fun y0 => retF y0) (fun p2 n4 l5 => f39_w1A k c39 c41 retF p2 n4 l5) p1 := by kernel_rfl

noncomputable def f39_N (k : Nat) (c39 : PV → (PV → R) → R) (c41 : PV → (PV → R) → R) (ret0 : PV → R) (p1 : PV) : R :=
  f39_e c39 c41 ret0 (fun p2 n4 l5 => f39_w1N k c39 c41 ret0 p2 n4 l5) p1
theorem f39_eq (k : Nat) (c39 : PV → (PV → R) → R) (c41 : PV → (PV → R) → R) (retF : PV → R) (p1 : PV) : exec (f39_E k c39 c41) f39_code (endK (f39_E k c39 c41) Try.f39 [] f39_un retF) ⟨[.val 38 p1, .undef, .undef, .undef, .undef, .undef, .undef, .undef, .undef, .undef, .undef, .undef, .undef, .undef, .undef, .undef, .undef, .undef, .undef, .undef, .undef, .undef, .undef, .undef, .undef, .undef, .undef, .undef], []⟩ = f39_N k c39 c41 (fun y0 => retF y0) p1 :=
  (f39_e_mem k c39 c41 retF p1).trans (by rw [show (fun p2 n4 l5 => f39_w1A k c39 c41 retF p2 n4 l5) = (fun p2 n4 l5 => f39_w1N k c39 c41 (fun y0 => retF y0) p2 n4 l5) from funext fun p2 => funext fun n4 => funext fun l5 => f39_w1_eq k c39 c41 retF p2 n4 l5]; rfl)

noncomputable def G39 : Nat → PV → (PV → R) → R
  | 0, _, _ => none
  | k + 1, p1, ret0 => f39_N k (G39 k) (G41 k) ret0 p1
theorem S39 : ∀ k, Snd Try.prog 39 f39_I f39_O (fun x ret => G39 k x (fun y0 => ret y0))
  | 0 => snd_none
  | k + 1 => snd_step (E := f39_E k (G39 k) (G41 k)) rfl laidOut noNums (orc_ok (S39 k) f39_D_ok (orc_ok (S41 k) f41_D_ok orc0_ok)) (f := 39) (fn := Try.f39) (code := f39_code) Try.func39 (by kernel_rfl) (drawsOk_of laidOut (orc_ok (S39 k) f39_D_ok (orc_ok (S41 k) f41_D_ok orc0_ok)) mixed (by kernel_rfl)) f39_un f39_un_ok [] (fun _ => rfl)
      (fun x ret => f39_eq k (G39 k) (G41 k) ret x)

/- catchpole/catchpoleref8.sign -/
noncomputable def f40_I : Bool → List SV × Obs := fun x => ([.bool x], [])
noncomputable def f40_D : List SV → Obs → Option (Bool)
  | [.bool b1], [] => some b1
  | _, _ => none
theorem f40_D_ok (args : List SV) (B : Obs) (x : Bool) (h : f40_D args B = some x) : f40_I x = (args, B) := by
  unfold f40_D at h
  split at h
  · injection h with h; subst h; rfl
  · cases h
noncomputable def f40_O : Int → Out := (fun y => ([.int .i64 y], []))
noncomputable def f40_un : Out → Option (Int)
  | ([.int .i64 y0], []) => some y0
  | _ => none
theorem f40_un_ok (o : Out) (y : Int) (h : f40_un o = some y) : o = f40_O y := by
  unfold f40_un at h
  split at h
  · injection h with h; subst h; rfl
  · cases h
noncomputable def f40_msk : Nat → Option (List Nat) := fun key =>  none
noncomputable def f40_C : Oracle := orc0
noncomputable def f40_E (k : Nat) : Env := { P := Try.prog, nilOwn := fun d => false, fldOwn := fun d i => false, ownPar := ownPars, ownRet := false, mask := f40_msk, fuel := k, C := f40_C }
noncomputable def f40_code : Code := Try.f40.body.getD .skip
noncomputable def f40_e (ret0 : Int → R) (b1 : Bool) : R :=
  bif b1 then
    ret0 (-1)
  else ret0 1

theorem f40_e_mem (k : Nat) (retF : Int → R) (b1 : Bool) : exec (f40_E k) f40_code (endK (f40_E k) Try.f40 [] f40_un retF) ⟨[.bool b1, .undef, .undef, .undef], []⟩ = f40_e (fun y0 => retF y0) b1 := by kernel_rfl

noncomputable def f40_N (k : Nat) (ret0 : Int → R) (b1 : Bool) : R :=
  f40_e ret0 b1
theorem f40_eq (k : Nat) (retF : Int → R) (b1 : Bool) : exec (f40_E k) f40_code (endK (f40_E k) Try.f40 [] f40_un retF) ⟨[.bool b1, .undef, .undef, .undef], []⟩ = f40_N k (fun y0 => retF y0) b1 :=
  (f40_e_mem k retF b1)

noncomputable def G40 : Nat → Bool → (Int → R) → R
  | 0, _, _ => none
  | k + 1, b1, ret0 => f40_N k  ret0 b1
theorem S40 : ∀ k, Snd Try.prog 40 f40_I f40_O (fun x ret => G40 k x (fun y0 => ret y0))
  | 0 => snd_none
  | k + 1 => snd_step (E := f40_E k ) rfl laidOut noNums orc0_ok (f := 40) (fn := Try.f40) (code := f40_code) Try.func40 (by kernel_rfl) (drawsOk_of laidOut orc0_ok mixed (by kernel_rfl)) f40_un f40_un_ok [] (fun _ => rfl)
      (fun x ret => f40_eq k  ret x)

/- catchpole/catchpoleref8.Rank -/
noncomputable def f21_I : PV × PV → List SV × Obs := fun x => ([.val 38 x.1, .val 38 x.2], [])
noncomputable def f21_D : List SV → Obs → Option (PV × PV)
  | [.val 38 p1, .val 38 p2], [] => some (p1, p2)
  | _, _ => none
theorem f21_D_ok (args : List SV) (B : Obs) (x : PV × PV) (h : f21_D args B = some x) : f21_I x = (args, B) := by
  unfold f21_D at h
  split at h
  · injection h with h; subst h; rfl
  · cases h
noncomputable def f21_O : Int → Out := (fun y => ([.int .i64 y], []))
noncomputable def f21_un : Out → Option (Int)
  | ([.int .i64 y0], []) => some y0
  | _ => none
theorem f21_un_ok (o : Out) (y : Int) (h : f21_un o = some y) : o = f21_O y := by
  unfold f21_un at h
  split at h
  · injection h with h; subst h; rfl
  · cases h
noncomputable def f21_msk : Nat → Option (List Nat) := fun key => bif key == 36 then some [7, 8, 9] else none
noncomputable def f21_C (c21 : PV → PV → (Int → R) → R) (c39 : PV → (PV → R) → R) (c40 : Bool → (Int → R) → R) (c41 : PV → (PV → R) → R) : Oracle := orc 21 f21_D f21_O (fun x ret => c21 x.1 x.2 (fun y0 => ret y0)) <| orc 39 f39_D f39_O (fun x ret => c39 x (fun y0 => ret y0)) <| orc 40 f40_D f40_O (fun x ret => c40 x (fun y0 => ret y0)) <| orc 41 f41_D f41_O (fun x ret => c41 x (fun y0 => ret y0)) <| orc0
noncomputable def f21_E (k : Nat) (c21 : PV → PV → (Int → R) → R) (c39 : PV → (PV → R) → R) (c40 : Bool → (Int → R) → R) (c41 : PV → (PV → R) → R) : Env := { P := Try.prog, nilOwn := fun d => false, fldOwn := fun d i => false, ownPar := ownPars, ownRet := false, mask := f21_msk, fuel := k, C := f21_C c21 c39 c40 c41 }
noncomputable def f21_code : Code := Try.f21.body.getD .skip
noncomputable def f21_cw1 : Code := subC f21_code [1, 1, 1, 1, 0, 1, 0, 0]
noncomputable def f21_hw1_0 (p7 : PV) (p8 : PV) (n12 : Int) : St := ⟨[.dead, .dead, .dead, .dead, .dead, .dead, .dead, .val 36 p7, .val 36 p8, .int .i64 n12, .dead, .dead, .dead, .dead, .dead, .dead, .dead, .dead, .dead, .dead, .dead, .dead, .dead, .dead, .dead, .dead, .dead, .dead, .dead, .dead, .dead, .dead, .dead, .dead, .dead, .dead, .dead, .dead, .dead, .dead, .dead, .dead, .dead, .dead, .dead, .dead, .dead, .dead, .dead, .dead, .dead, .dead, .dead, .dead, .dead, .dead, .dead, .dead, .dead, .dead, .dead, .dead, .dead, .dead, .dead, .dead, .dead, .dead, .dead, .dead, .dead, .dead, .dead, .dead, .dead, .dead, .dead, .dead, .dead, .dead, .dead, .dead, .dead, .dead, .dead, .dead, .dead, .dead, .dead, .dead, .dead, .dead, .dead], []⟩
noncomputable def f21_w1A (k : Nat) (c21 : PV → PV → (Int → R) → R) (c39 : PV → (PV → R) → R) (c40 : Bool → (Int → R) → R) (c41 : PV → (PV → R) → R) (retF : Int → R) (p7 : PV) (p8 : PV) (n12 : Int) : R := loopM (f21_E k c21 c39 c40 c41) f21_cw1 (kont (f21_E k c21 c39 c40 c41) f21_code [1, 1, 1, 1, 0, 1, 0] (endK (f21_E k c21 c39 c40 c41) Try.f21 [] f21_un retF)) k (f21_hw1_0 p7 p8 n12)
noncomputable def f21_w1b0 (c21 : PV → PV → (Int → R) → R) (c39 : PV → (PV → R) → R) (c40 : Bool → (Int → R) → R) (c41 : PV → (PV → R) → R) (ret0 : Int → R) (next_w1_0 : Int → R) (p7 : PV) (p8 : PV) (n12 : Int) : R :=
  bif ((decide (n12 < (List.length (PV.els p7) : Int))) == true) then
    bif (decide (n12 < (List.length (PV.els p8) : Int))) then
      bif (true && decide ((0 : Int) ≤ n12) && decide (n12 < (List.length (PV.els p7) : Int))) then
        bif (true && decide ((0 : Int) ≤ n12) && decide (n12 < (List.length (PV.els p8) : Int))) then
          c21 (List.getD (PV.els p7) (n12).toNat PV.nil) (List.getD (PV.els p8) (n12).toNat PV.nil) fun n13 =>
          bif (!(decide (n13 = (0 : Int)))) then
            ret0 n13
          else next_w1_0 (IntKind.wrap .i64 (n12 + (1 : Int)))
        else none
      else none
    else bif (!(decide ((List.length (PV.els p7) : Int) = (List.length (PV.els p8) : Int)))) then
      c40 (decide ((List.length (PV.els p8) : Int) < (List.length (PV.els p7) : Int))) fun n14 =>
      ret0 n14
    else ret0 0
  else bif (!(decide ((List.length (PV.els p7) : Int) = (List.length (PV.els p8) : Int)))) then
    c40 (decide ((List.length (PV.els p8) : Int) < (List.length (PV.els p7) : Int))) fun n15 =>
    ret0 n15
  else ret0 0

theorem f21_w1b0_mem (k : Nat) (c21 : PV → PV → (Int → R) → R) (c39 : PV → (PV → R) → R) (c40 : Bool → (Int → R) → R) (c41 : PV → (PV → R) → R) (retF : Int → R) (NX_w1 : St → R) (p7 : PV) (p8 : PV) (n12 : Int) : exec (f21_E k c21 c39 c40 c41) f21_cw1 (purgeK (f21_E k c21 c39 c40 c41) f21_cw1 (loopK NX_w1 (kont (f21_E k c21 c39 c40 c41) f21_code [1, 1, 1, 1, 0, 1, 0] (endK (f21_E k c21 c39 c40 c41) Try.f21 [] f21_un retF)))) (f21_hw1_0 p7 p8 n12) = f21_w1b0 c21 c39 c40 c41 (fun y0 => retF y0) (fun n12 => NX_w1 (f21_hw1_0 p7 p8 n12)) p7 p8 n12 := by kernel_rfl

noncomputable def f21_w1b0N (k : Nat) (c21 : PV → PV → (Int → R) → R) (c39 : PV → (PV → R) → R) (c40 : Bool → (Int → R) → R) (c41 : PV → (PV → R) → R) (ret0 : Int → R) (next_w1_0 : Int → R) (p7 : PV) (p8 : PV) (n12 : Int) : R :=
  f21_w1b0 c21 c39 c40 c41 ret0 next_w1_0 p7 p8 n12
theorem f21_w1b0_eq (k : Nat) (c21 : PV → PV → (Int → R) → R) (c39 : PV → (PV → R) → R) (c40 : Bool → (Int → R) → R) (c41 : PV → (PV → R) → R) (retF : Int → R) (NX_w1 : St → R) (p7 : PV) (p8 : PV) (n12 : Int) : exec (f21_E k c21 c39 c40 c41) f21_cw1 (purgeK (f21_E k c21 c39 c40 c41) f21_cw1 (loopK NX_w1 (kont (f21_E k c21 c39 c40 c41) f21_code [1, 1, 1, 1, 0, 1, 0] (endK (f21_E k c21 c39 c40 c41) Try.f21 [] f21_un retF)))) (f21_hw1_0 p7 p8 n12) = f21_w1b0N k c21 c39 c40 c41 (fun y0 => retF y0) (fun n12 => NX_w1 (f21_hw1_0 p7 p8 n12)) p7 p8 n12 :=
  (f21_w1b0_mem k c21 c39 c40 c41 retF NX_w1 p7 p8 n12)

noncomputable def f21_w1B (k : Nat) (c21 : PV → PV → (Int → R) → R) (c39 : PV → (PV → R) → R) (c40 : Bool → (Int → R) → R) (c41 : PV → (PV → R) → R) (ret0 : Int → R) (p7 : PV) (p8 : PV) (nx : Int → R) : Int → R := (fun s => f21_w1b0N k c21 c39 c40 c41 ret0 (fun n12 => nx n12) p7 p8 s)
noncomputable def f21_w1N (k : Nat) (c21 : PV → PV → (Int → R) → R) (c39 : PV → (PV → R) → R) (c40 : Bool → (Int → R) → R) (c41 : PV → (PV → R) → R) (ret0 : Int → R) (p7 : PV) (p8 : PV) (n12 : Int) : R := loopR (f21_w1B k c21 c39 c40 c41 ret0 p7 p8) k n12
theorem f21_w1_eq (k : Nat) (c21 : PV → PV → (Int → R) → R) (c39 : PV → (PV → R) → R) (c40 : Bool → (Int → R) → R) (c41 : PV → (PV → R) → R) (retF : Int → R) (p7 : PV) (p8 : PV) (n12 : Int) : f21_w1A k c21 c39 c40 c41 retF p7 p8 n12 = f21_w1N k c21 c39 c40 c41 (fun y0 => retF y0) p7 p8 n12 :=
  Eq.mp (by kernel_rfl) (loop_sim (E := (f21_E k c21 c39 c40 c41)) (c := f21_cw1) (K := (kont (f21_E k c21 c39 c40 c41) f21_code [1, 1, 1, 1, 0, 1, 0] (endK (f21_E k c21 c39 c40 c41) Try.f21 [] f21_un retF))) (S := Int) (fun s => f21_hw1_0 p7 p8 s) (f21_w1B k c21 c39 c40 c41 (fun y0 => retF y0) p7 p8) (fun NX s => by
    exact Eq.mp (by kernel_rfl) (f21_w1b0_eq k c21 c39 c40 c41 retF NX p7 p8 s)) k n12)

noncomputable def f21_cw2 : Code := subC f21_code [1, 1, 1, 1, 0, 1, 0, 0]
noncomputable def f21_hw2_0 (p16 : PV) (p17 : PV) (n21 : Int) : St := ⟨[.dead, .dead, .dead, .dead, .dead, .dead, .dead, .val 36 p16, .val 36 p17, .int .i64 n21, .dead, .dead, .dead, .dead, .dead, .dead, .dead, .dead, .dead, .dead, .dead, .dead, .dead, .dead, .dead, .dead, .dead, .dead, .dead, .dead, .dead, .dead, .dead, .dead, .dead, .dead, .dead, .dead, .dead, .dead, .dead, .dead, .dead, .dead, .dead, .dead, .dead, .dead, .dead, .dead, .dead, .dead, .dead, .dead, .dead, .dead, .dead, .dead, .dead, .dead, .dead, .dead, .dead, .dead, .dead, .dead, .dead, .dead, .dead, .dead, .dead, .dead, .dead, .dead, .dead, .dead, .dead, .dead, .dead, .dead, .dead, .dead, .dead, .dead, .dead, .dead, .dead, .dead, .dead, .dead, .dead, .dead, .dead], []⟩
noncomputable def f21_w2A (k : Nat) (c21 : PV → PV → (Int → R) → R) (c39 : PV → (PV → R) → R) (c40 : Bool → (Int → R) → R) (c41 : PV → (PV → R) → R) (retF : Int → R) (p16 : PV) (p17 : PV) (n21 : Int) : R := loopM (f21_E k c21 c39 c40 c41) f21_cw2 (kont (f21_E k c21 c39 c40 c41) f21_code [1, 1, 1, 1, 0, 1, 0] (endK (f21_E k c21 c39 c40 c41) Try.f21 [] f21_un retF)) k (f21_hw2_0 p16 p17 n21)
noncomputable def f21_w2b0 (c21 : PV → PV → (Int → R) → R) (c39 : PV → (PV → R) → R) (c40 : Bool → (Int → R) → R) (c41 : PV → (PV → R) → R) (ret0 : Int → R) (next_w2_0 : Int → R) (p16 : PV) (p17 : PV) (n21 : Int) : R :=
  bif ((decide (n21 < (List.length (PV.els p16) : Int))) == true) then
    bif (decide (n21 < (List.length (PV.els p17) : Int))) then
      bif (true && decide ((0 : Int) ≤ n21) && decide (n21 < (List.length (PV.els p16) : Int))) then
        bif (true && decide ((0 : Int) ≤ n21) && decide (n21 < (List.length (PV.els p17) : Int))) then
          c21 (List.getD (PV.els p16) (n21).toNat PV.nil) (List.getD (PV.els p17) (n21).toNat PV.nil) fun n22 =>
          bif (!(decide (n22 = (0 : Int)))) then
            ret0 n22
          else next_w2_0 (IntKind.wrap .i64 (n21 + (1 : Int)))
        else none
      else none
    else bif (!(decide ((List.length (PV.els p16) : Int) = (List.length (PV.els p17) : Int)))) then
      c40 (decide ((List.length (PV.els p17) : Int) < (List.length (PV.els p16) : Int))) fun n23 =>
      ret0 n23
    else ret0 0
  else bif (!(decide ((List.length (PV.els p16) : Int) = (List.length (PV.els p17) : Int)))) then
    c40 (decide ((List.length (PV.els p17) : Int) < (List.length (PV.els p16) : Int))) fun n24 =>
    ret0 n24
  else ret0 0

theorem f21_w2b0_mem (k : Nat) (c21 : PV → PV → (Int → R) → R) (c39 : PV → (PV → R) → R) (c40 : Bool → (Int → R) → R) (c41 : PV → (PV → R) → R) (retF : Int → R) (NX_w2 : St → R) (p16 : PV) (p17 : PV) (n21 : Int) : exec (f21_E k c21 c39 c40 c41) f21_cw2 (purgeK (f21_E k c21 c39 c40 c41) f21_cw2 (loopK NX_w2 (kont (f21_E k c21 c39 c40 c41) f21_code [1, 1, 1, 1, 0, 1, 0] (endK (f21_E k c21 c39 c40 c41) Try.f21 [] f21_un retF)))) (f21_hw2_0 p16 p17 n21) = f21_w2b0 c21 c39 c40 c41 (fun y0 => retF y0) (fun n21 => NX_w2 (f21_hw2_0 p16 p17 n21)) p16 p17 n21 := by kernel_rfl

noncomputable def f21_w2b0N (k : Nat) (c21 : PV → PV → (Int → R) → R) (c39 : PV → (PV → R) → R) (c40 : Bool → (Int → R) → R) (c41 : PV → (PV → R) → R) (ret0 : Int → R) (next_w2_0 : Int → R) (p16 : PV) (p17 : PV) (n21 : Int) : R :=
  f21_w2b0 c21 c39 c40 c41 ret0 next_w2_0 p16 p17 n21
theorem f21_w2b0_eq (k : Nat) (c21 : PV → PV → (Int → R) → R) (c39 : PV → (PV → R) → R) (c40 : Bool → (Int → R) → R) (c41 : PV → (PV → R) → R) (retF : Int → R) (NX_w2 : St → R) (p16 : PV) (p17 : PV) (n21 : Int) : exec (f21_E k c21 c39 c40 c41) f21_cw2 (purgeK (f21_E k c21 c39 c40 c41) f21_cw2 (loopK NX_w2 (kont (f21_E k c21 c39 c40 c41) f21_code [1, 1, 1, 1, 0, 1, 0] (endK (f21_E k c21 c39 c40 c41) Try.f21 [] f21_un retF)))) (f21_hw2_0 p16 p17 n21) = f21_w2b0N k c21 c39 c40 c41 (fun y0 => retF y0) (fun n21 => NX_w2 (f21_hw2_0 p16 p17 n21)) p16 p17 n21 :=
  (f21_w2b0_mem k c21 c39 c40 c41 retF NX_w2 p16 p17 n21)

noncomputable def f21_w2B (k : Nat) (c21 : PV → PV → (Int → R) → R) (c39 : PV → (PV → R) → R) (c40 : Bool → (Int → R) → R) (c41 : PV → (PV → R) → R) (ret0 : Int → R) (p16 : PV) (p17 : PV) (nx : Int → R) : Int → R := (fun s => f21_w2b0N k c21 c39 c40 c41 ret0 (fun n21 => nx n21) p16 p17 s)
noncomputable def f21_w2N (k : Nat) (c21 : PV → PV → (Int → R) → R) (c39 : PV → (PV → R) → R) (c40 : Bool → (Int → R) → R) (c41 : PV → (PV → R) → R) (ret0 : Int → R) (p16 : PV) (p17 : PV) (n21 : Int) : R := loopR (f21_w2B k c21 c39 c40 c41 ret0 p16 p17) k n21
theorem f21_w2_eq (k : Nat) (c21 : PV → PV → (Int → R) → R) (c39 : PV → (PV → R) → R) (c40 : Bool → (Int → R) → R) (c41 : PV → (PV → R) → R) (retF : Int → R) (p16 : PV) (p17 : PV) (n21 : Int) : f21_w2A k c21 c39 c40 c41 retF p16 p17 n21 = f21_w2N k c21 c39 c40 c41 (fun y0 => retF y0) p16 p17 n21 :=
  Eq.mp (by kernel_rfl) (loop_sim (E := (f21_E k c21 c39 c40 c41)) (c := f21_cw2) (K := (kont (f21_E k c21 c39 c40 c41) f21_code [1, 1, 1, 1, 0, 1, 0] (endK (f21_E k c21 c39 c40 c41) Try.f21 [] f21_un retF))) (S := Int) (fun s => f21_hw2_0 p16 p17 s) (f21_w2B k c21 c39 c40 c41 (fun y0 => retF y0) p16 p17) (fun NX s => by
    exact Eq.mp (by kernel_rfl) (f21_w2b0_eq k c21 c39 c40 c41 retF NX p16 p17 s)) k n21)

noncomputable def f21_e (c21 : PV → PV → (Int → R) → R) (c39 : PV → (PV → R) → R) (c40 : Bool → (Int → R) → R) (c41 : PV → (PV → R) → R) (ret0 : Int → R) (w1 : PV → PV → Int → R) (w2 : PV → PV → Int → R) (p1 : PV) (p2 : PV) : R :=
  c39 p1 fun p3 =>
  c39 p2 fun p4 =>
  bif (decide ((List.length (PV.els p4) : Int) < (List.length (PV.els p3) : Int))) then
    ret0 (-1)
  else bif (decide ((List.length (PV.els p3) : Int) < (List.length (PV.els p4) : Int))) then
    ret0 1
  else bif (!(decide ((PV.num (PV.fld p1 0)) = (PV.num (PV.fld p2 0))))) then
    c40 (decide ((PV.num (PV.fld p1 0)) < (PV.num (PV.fld p2 0)))) fun n5 =>
    ret0 n5
  else bif ((decide ((PV.num (PV.fld p1 0)) = (2 : Int))) == true) then
    bif (!(decide ((PV.num (PV.fld p1 1)) = (PV.num (PV.fld p2 1))))) then
      c40 (decide ((PV.num (PV.fld p1 1)) < (PV.num (PV.fld p2 1)))) fun n6 =>
      ret0 n6
    else c41 p1 fun p7 =>
    c41 p2 fun p8 =>
    w1 p7 p8 0
  else c41 p1 fun p16 =>
  c41 p2 fun p17 =>
  w2 p16 p17 0

theorem f21_e_mem (k : Nat) (c21 : PV → PV → (Int → R) → R) (c39 : PV → (PV → R) → R) (c40 : Bool → (Int → R) → R) (c41 : PV → (PV → R) → R) (retF : Int → R) (p1 : PV) (p2 : PV) : exec (f21_E k c21 c39 c40 c41) f21_code (endK (f21_E k c21 c39 c40 c41) Try.f21 [] f21_un retF) ⟨[.val 38 p1, .val 38 p2, .undef, .undef, .undef, .undef, .undef, .undef, .undef, .undef, .undef, .undef, .undef, .undef, .undef, .undef, .undef, .undef, .undef, .undef, .undef, .undef, .undef, .undef, .undef, .undef, .undef, .undef, .undef, .undef, .undef, .undef, .undef, .undef, .undef, .undef, .undef, .undef, .undef, .undef, .undef, .undef, .undef, .undef, .undef, .undef, .undef, .undef, .undef, .undef, .undef, .undef, .undef, .undef, .undef, .undef, .undef, .undef, .undef, .undef, .undef, .undef, .undef, .undef, .undef, .undef, .undef, .undef, .undef, .undef, .undef, .undef, .undef, .undef, .undef, .undef, .undef, .undef, .undef, .undef, .undef, .undef, .undef, .undef, .undef, .undef, .undef, .undef, .undef, .undef, .undef, .undef, .undef], []⟩ = f21_e c21 c39 c40 c41 (fun y0 => retF y0) (fun p7 p8 n12 => f21_w1A k c21 c39 c40 c41 retF p7 p8 n12) (fun p16 p17 n21 => f21_w2A k c21 c39 c40 c41 retF p16 p17 n21) p1 p2 := by kernel_rfl

noncomputable def f21_N (k : Nat) (c21 : PV → PV → (Int → R) → R) (c39 : PV → (PV → R) → R) (c40 : Bool → (Int → R) → R) (c41 : PV → (PV → R) → R) (ret0 : Int → R) (p1 : PV) (p2 : PV) : R :=
  f21_e c21 c39 c40 c41 ret0 (fun p7 p8 n12 => f21_w1N k c21 c39 c40 c41 ret0 p7 p8 n12) (fun p16 p17 n21 => f21_w2N k c21 c39 c40 c41 ret0 p16 p17 n21) p1 p2
theorem f21_eq (k : Nat) (c21 : PV → PV → (Int → R) → R) (c39 : PV → (PV → R) → R) (c40 : Bool → (Int → R) → R) (c41 : PV → (PV → R) → R) (retF : Int → R) (p1 : PV) (p2 : PV) : exec (f21_E k c21 c39 c40 c41) f21_code (endK (f21_E k c21 c39 c40 c41) Try.f21 [] f21_un retF) ⟨[.val 38 p1, .val 38 p2, .undef, .undef, .undef, .undef, .undef, .undef, .undef, .undef, .undef, .undef, .undef, .undef, .undef, .undef, .undef, .undef, .undef, .undef, .undef, .undef, .undef, .undef, .undef, .undef, .undef, .undef, .undef, .undef, .undef, .undef, .undef, .undef, .undef, .undef, .undef, .undef, .undef, .undef, .undef, .undef, .undef, .undef, .undef, .undef, .undef, .undef, .undef, .undef, .undef, .undef, .undef, .undef, .undef, .undef, .undef, .undef, .undef, .undef, .undef, .undef, .undef, .undef, .undef, .undef, .undef, .undef, .undef, .undef, .undef, .undef, .undef, .undef, .undef, .undef, .undef, .undef, .undef, .undef, .undef, .undef, .undef, .undef, .undef, .undef, .undef, .undef, .undef, .undef, .undef, .undef, .undef], []⟩ = f21_N k c21 c39 c40 c41 (fun y0 => retF y0) p1 p2 :=
  (f21_e_mem k c21 c39 c40 c41 retF p1 p2).trans (by rw [show (fun p7 p8 n12 => f21_w1A k c21 c39 c40 c41 retF p7 p8 n12) = (fun p7 p8 n12 => f21_w1N k c21 c39 c40 c41 (fun y0 => retF y0) p7 p8 n12) from funext fun p7 => funext fun p8 => funext fun n12 => f21_w1_eq k c21 c39 c40 c41 retF p7 p8 n12, show (fun p16 p17 n21 => f21_w2A k c21 c39 c40 c41 retF p16 p17 n21) = (fun p16 p17 n21 => f21_w2N k c21 c39 c40 c41 (fun y0 => retF y0) p16 p17 n21) from funext fun p16 => funext fun p17 => funext fun n21 => f21_w2_eq k c21 c39 c40 c41 retF p16 p17 n21]; rfl)

noncomputable def G21 : Nat → PV → PV → (Int → R) → R
  | 0, _, _, _ => none
  | k + 1, p1, p2, ret0 => f21_N k (G21 k) (G39 k) (G40 k) (G41 k) ret0 p1 p2
theorem S21 : ∀ k, Snd Try.prog 21 f21_I f21_O (fun x ret => G21 k x.1 x.2 (fun y0 => ret y0))
  | 0 => snd_none
  | k + 1 => snd_step (E := f21_E k (G21 k) (G39 k) (G40 k) (G41 k)) rfl laidOut noNums (orc_ok (S21 k) f21_D_ok (orc_ok (S39 k) f39_D_ok (orc_ok (S40 k) f40_D_ok (orc_ok (S41 k) f41_D_ok orc0_ok)))) (f := 21) (fn := Try.f21) (code := f21_code) Try.func21 (by kernel_rfl) (drawsOk_of laidOut (orc_ok (S21 k) f21_D_ok (orc_ok (S39 k) f39_D_ok (orc_ok (S40 k) f40_D_ok (orc_ok (S41 k) f41_D_ok orc0_ok)))) mixed (by kernel_rfl)) f21_un f21_un_ok [] (fun _ => rfl)
      (fun x ret => f21_eq k (G21 k) (G39 k) (G40 k) (G41 k) ret x.1 x.2)

/- catchpole/catchpolelaw13.RankSays -/
noncomputable def f6_I : PV × PV × PV → List SV × Obs := fun x => ([.val 24 x.1, .val 24 x.2.1, .val 22 x.2.2], [])
noncomputable def f6_D : List SV → Obs → Option (PV × PV × PV)
  | [.val 24 p1, .val 24 p2, .val 22 p3], [] => some (p1, p2, p3)
  | _, _ => none
theorem f6_D_ok (args : List SV) (B : Obs) (x : PV × PV × PV) (h : f6_D args B = some x) : f6_I x = (args, B) := by
  unfold f6_D at h
  split at h
  · injection h with h; subst h; rfl
  · cases h
noncomputable def f6_O : Bool → Out := (fun y => ([.bool y], []))
noncomputable def f6_un : Out → Option (Bool)
  | ([.bool y0], []) => some y0
  | _ => none
theorem f6_un_ok (o : Out) (y : Bool) (h : f6_un o = some y) : o = f6_O y := by
  unfold f6_un at h
  split at h
  · injection h with h; subst h; rfl
  · cases h
noncomputable def f6_msk : Nat → Option (List Nat) := fun key => bif key == 21 then some [2, 3, 4, 7, 8] else none
noncomputable def f6_C (c12 : (Bool → R) → R) (c13 : PV → Int → (Bool → R) → R) (c14 : PV → PV → (Int → R) → R) (c20 : PV → (Int → Bool → R) → R) (c21 : PV → PV → (Int → R) → R) (c22 : PV → (PV → R) → R) : Oracle := orc 12 f12_D f12_O (fun x ret => c12 (fun y0 => ret y0)) <| orc 13 f13_D f13_O (fun x ret => c13 x.1 x.2 (fun y0 => ret y0)) <| orc 14 f14_D f14_O (fun x ret => c14 x.1 x.2 (fun y0 => ret y0)) <| orc 20 f20_D f20_O (fun x ret => c20 x (fun y0 y1 => ret (y0, y1))) <| orc 21 f21_D f21_O (fun x ret => c21 x.1 x.2 (fun y0 => ret y0)) <| orc 22 f22_D f22_O (fun x ret => c22 x (fun y0 => ret y0)) <| orc0
noncomputable def f6_E (k : Nat) (c12 : (Bool → R) → R) (c13 : PV → Int → (Bool → R) → R) (c14 : PV → PV → (Int → R) → R) (c20 : PV → (Int → Bool → R) → R) (c21 : PV → PV → (Int → R) → R) (c22 : PV → (PV → R) → R) : Env := { P := Try.prog, nilOwn := fun d => false, fldOwn := fun d i => false, ownPar := ownPars, ownRet := false, mask := f6_msk, fuel := k, C := f6_C c12 c13 c14 c20 c21 c22 }
noncomputable def f6_code : Code := Try.f6.body.getD .skip
noncomputable def f6_cw1 : Code := subC f6_code [1, 1, 1, 1, 0, 1, 0, 0]
noncomputable def f6_hw1_0 (p1 : PV) (p2 : PV) (p3 : PV) (n14 : Int) (n15 : Int) : St := ⟨[.dead, .dead, .val 22 p3, .ptr 3 [], .ptr 4 [], .dead, .dead, .int .i64 n14, .int .i64 n15, .dead, .dead, .dead, .dead, .dead, .dead, .dead, .dead, .dead, .dead, .dead, .dead, .dead, .dead, .dead, .dead, .dead, .dead, .dead, .dead, .dead, .dead, .dead, .dead, .dead, .dead, .dead, .dead, .dead, .dead, .dead, .dead, .dead, .dead, .dead, .dead, .dead, .dead, .dead, .dead, .dead, .dead, .dead, .dead, .dead, .dead, .dead, .dead, .dead, .dead, .dead, .dead, .dead, .dead, .dead, .dead, .dead, .dead, .dead, .dead, .dead, .dead, .dead, .dead, .dead, .dead, .dead, .dead, .dead, .dead, .dead, .dead], [(3, .box 24 (.val 24 p1)), (4, .box 24 (.val 24 p2))]⟩
noncomputable def f6_w1A (k : Nat) (c12 : (Bool → R) → R) (c13 : PV → Int → (Bool → R) → R) (c14 : PV → PV → (Int → R) → R) (c20 : PV → (Int → Bool → R) → R) (c21 : PV → PV → (Int → R) → R) (c22 : PV → (PV → R) → R) (retF : Bool → R) (p1 : PV) (p2 : PV) (p3 : PV) (n14 : Int) (n15 : Int) : R := loopM (f6_E k c12 c13 c14 c20 c21 c22) f6_cw1 (kont (f6_E k c12 c13 c14 c20 c21 c22) f6_code [1, 1, 1, 1, 0, 1, 0] (endK (f6_E k c12 c13 c14 c20 c21 c22) Try.f6 [] f6_un retF)) k (f6_hw1_0 p1 p2 p3 n14 n15)
noncomputable def f6_w1b0 (c12 : (Bool → R) → R) (c13 : PV → Int → (Bool → R) → R) (c14 : PV → PV → (Int → R) → R) (c20 : PV → (Int → Bool → R) → R) (c21 : PV → PV → (Int → R) → R) (c22 : PV → (PV → R) → R) (ret0 : Bool → R) (next_w1_0 : Int → Int → R) (p1 : PV) (p2 : PV) (p3 : PV) (n14 : Int) (n15 : Int) : R :=
  bif (decide (n15 < (List.length (PV.els p3) : Int))) then
    bif (true && decide ((0 : Int) ≤ n15) && decide (n15 < (List.length (PV.els p3) : Int))) then
      c13 (List.getD (PV.els p3) (n15).toNat PV.nil) 20 fun b16 =>
      bif b16 then
        ret0 true
      else bif ((decide (n14 < (0 : Int))) == false) then
        bif (true && decide ((0 : Int) ≤ n15) && decide (n15 < (List.length (PV.els p3) : Int))) then
          c22 (List.getD (PV.els p3) (n15).toNat PV.nil) fun p17 =>
          bif (true && decide ((0 : Int) ≤ n14) && decide (n14 < (List.length (PV.els p3) : Int))) then
            c22 (List.getD (PV.els p3) (n14).toNat PV.nil) fun p18 =>
            c21 p17 p18 fun n19 =>
            bif (decide (n19 < (0 : Int))) then
              next_w1_0 n15 (IntKind.wrap .i64 (n15 + (1 : Int)))
            else next_w1_0 n14 (IntKind.wrap .i64 (n15 + (1 : Int)))
          else none
        else none
      else next_w1_0 n15 (IntKind.wrap .i64 (n15 + (1 : Int)))
    else none
  else c20 p3 fun n20 b21 =>
  c14 p1 p2 fun n22 =>
  c22 p1 fun p23 =>
  c22 p2 fun p24 =>
  c21 p23 p24 fun n25 =>
  bif ((decide (n22 = n25)) == true) then
    bif ((b21 == (decide ((0 : Int) ≤ n14))) == true) then
      bif ((!b21) == false) then
        ret0 (decide (n20 = n14))
      else ret0 true
    else ret0 false
  else ret0 false

theorem f6_w1b0_mem (k : Nat) (c12 : (Bool → R) → R) (c13 : PV → Int → (Bool → R) → R) (c14 : PV → PV → (Int → R) → R) (c20 : PV → (Int → Bool → R) → R) (c21 : PV → PV → (Int → R) → R) (c22 : PV → (PV → R) → R) (retF : Bool → R) (NX_w1 : St → R) (p1 : PV) (p2 : PV) (p3 : PV) (n14 : Int) (n15 : Int) : exec (f6_E k c12 c13 c14 c20 c21 c22) f6_cw1 (purgeK (f6_E k c12 c13 c14 c20 c21 c22) f6_cw1 (loopK NX_w1 (kont (f6_E k c12 c13 c14 c20 c21 c22) f6_code [1, 1, 1, 1, 0, 1, 0] (endK (f6_E k c12 c13 c14 c20 c21 c22) Try.f6 [] f6_un retF)))) (f6_hw1_0 p1 p2 p3 n14 n15) = f6_w1b0 c12 c13 c14 c20 c21 c22 (fun y0 => retF y0) (fun n14 n15 => NX_w1 (f6_hw1_0 p1 p2 p3 n14 n15)) p1 p2 p3 n14 n15 := by kernel_rfl

noncomputable def f6_w1b0N (k : Nat) (c12 : (Bool → R) → R) (c13 : PV → Int → (Bool → R) → R) (c14 : PV → PV → (Int → R) → R) (c20 : PV → (Int → Bool → R) → R) (c21 : PV → PV → (Int → R) → R) (c22 : PV → (PV → R) → R) (ret0 : Bool → R) (next_w1_0 : Int → Int → R) (p1 : PV) (p2 : PV) (p3 : PV) (n14 : Int) (n15 : Int) : R :=
  f6_w1b0 c12 c13 c14 c20 c21 c22 ret0 next_w1_0 p1 p2 p3 n14 n15
theorem f6_w1b0_eq (k : Nat) (c12 : (Bool → R) → R) (c13 : PV → Int → (Bool → R) → R) (c14 : PV → PV → (Int → R) → R) (c20 : PV → (Int → Bool → R) → R) (c21 : PV → PV → (Int → R) → R) (c22 : PV → (PV → R) → R) (retF : Bool → R) (NX_w1 : St → R) (p1 : PV) (p2 : PV) (p3 : PV) (n14 : Int) (n15 : Int) : exec (f6_E k c12 c13 c14 c20 c21 c22) f6_cw1 (purgeK (f6_E k c12 c13 c14 c20 c21 c22) f6_cw1 (loopK NX_w1 (kont (f6_E k c12 c13 c14 c20 c21 c22) f6_code [1, 1, 1, 1, 0, 1, 0] (endK (f6_E k c12 c13 c14 c20 c21 c22) Try.f6 [] f6_un retF)))) (f6_hw1_0 p1 p2 p3 n14 n15) = f6_w1b0N k c12 c13 c14 c20 c21 c22 (fun y0 => retF y0) (fun n14 n15 => NX_w1 (f6_hw1_0 p1 p2 p3 n14 n15)) p1 p2 p3 n14 n15 :=
  (f6_w1b0_mem k c12 c13 c14 c20 c21 c22 retF NX_w1 p1 p2 p3 n14 n15)

noncomputable def f6_w1B (k : Nat) (c12 : (Bool → R) → R) (c13 : PV → Int → (Bool → R) → R) (c14 : PV → PV → (Int → R) → R) (c20 : PV → (Int → Bool → R) → R) (c21 : PV → PV → (Int → R) → R) (c22 : PV → (PV → R) → R) (ret0 : Bool → R) (p1 : PV) (p2 : PV) (p3 : PV) (nx : Int × Int → R) : Int × Int → R := (fun s => f6_w1b0N k c12 c13 c14 c20 c21 c22 ret0 (fun n14 n15 => nx (n14, n15)) p1 p2 p3 s.1 s.2)
noncomputable def f6_w1N (k : Nat) (c12 : (Bool → R) → R) (c13 : PV → Int → (Bool → R) → R) (c14 : PV → PV → (Int → R) → R) (c20 : PV → (Int → Bool → R) → R) (c21 : PV → PV → (Int → R) → R) (c22 : PV → (PV → R) → R) (ret0 : Bool → R) (p1 : PV) (p2 : PV) (p3 : PV) (n14 : Int) (n15 : Int) : R := loopR (f6_w1B k c12 c13 c14 c20 c21 c22 ret0 p1 p2 p3) k (n14, n15)
theorem f6_w1_eq (k : Nat) (c12 : (Bool → R) → R) (c13 : PV → Int → (Bool → R) → R) (c14 : PV → PV → (Int → R) → R) (c20 : PV → (Int → Bool → R) → R) (c21 : PV → PV → (Int → R) → R) (c22 : PV → (PV → R) → R) (retF : Bool → R) (p1 : PV) (p2 : PV) (p3 : PV) (n14 : Int) (n15 : Int) : f6_w1A k c12 c13 c14 c20 c21 c22 retF p1 p2 p3 n14 n15 = f6_w1N k c12 c13 c14 c20 c21 c22 (fun y0 => retF y0) p1 p2 p3 n14 n15 :=
  Eq.mp (by kernel_rfl) (loop_sim (E := (f6_E k c12 c13 c14 c20 c21 c22)) (c := f6_cw1) (K := (kont (f6_E k c12 c13 c14 c20 c21 c22) f6_code [1, 1, 1, 1, 0, 1, 0] (endK (f6_E k c12 c13 c14 c20 c21 c22) Try.f6 [] f6_un retF))) (S := Int × Int) (fun s => f6_hw1_0 p1 p2 p3 s.1 s.2) (f6_w1B k c12 c13 c14 c20 c21 c22 (fun y0 => retF y0) p1 p2 p3) (fun NX s => by
    exact Eq.mp (by kernel_rfl) (f6_w1b0_eq k c12 c13 c14 c20 c21 c22 retF NX p1 p2 p3 s.1 s.2)) k (n14, n15))

noncomputable def f6_e (c12 : (Bool → R) → R) (c13 : PV → Int → (Bool → R) → R) (c14 : PV → PV → (Int → R) → R) (c20 : PV → (Int → Bool → R) → R) (c21 : PV → PV → (Int → R) → R) (c22 : PV → (PV → R) → R) (ret0 : Bool → R) (w1 : Int → Int → R) (p1 : PV) (p2 : PV) (p3 : PV) : R :=
  c12 fun b4 =>
  bif (!b4) then
    ret0 false
  else c13 p1 30 fun b5 =>
  bif (b5 == false) then
    c13 p2 30 fun b6 =>
    bif (b6 == false) then
      bif (decide ((12 : Int) < (List.length (PV.els p3) : Int))) then
        ret0 true
      else w1 (-1) 0
    else ret0 true
  else ret0 true

theorem f6_e_mem (k : Nat) (c12 : (Bool → R) → R) (c13 : PV → Int → (Bool → R) → R) (c14 : PV → PV → (Int → R) → R) (c20 : PV → (Int → Bool → R) → R) (c21 : PV → PV → (Int → R) → R) (c22 : PV → (PV → R) → R) (retF : Bool → R) (p1 : PV) (p2 : PV) (p3 : PV) : exec (f6_E k c12 c13 c14 c20 c21 c22) f6_code (endK (f6_E k c12 c13 c14 c20 c21 c22) Try.f6 [] f6_un retF) ⟨[.val 24 p1, .val 24 p2, .val 22 p3, .undef, .undef, .undef, .undef, .undef, .undef, .undef, .undef, .undef, .undef, .undef, .undef, .undef, .undef, .undef, .undef, .undef, .undef, .undef, .undef, .undef, .undef, .undef, .undef, .undef, .undef, .undef, .undef, .undef, .undef, .undef, .undef, .undef, .undef, .undef, .undef, .undef, .undef, .undef, .undef, .undef, .undef, .undef, .undef, .undef, .undef, .undef, .undef, .undef, .undef, .undef, .undef, .undef, .undef, .undef, .undef, .undef, .undef, .undef, .undef, .undef, .undef, .undef, .undef, .undef, .undef, .undef, .undef, .undef, .undef, .undef, .undef, .undef, .undef, .undef, .undef, .undef, .undef], []⟩ = f6_e c12 c13 c14 c20 c21 c22 (fun y0 => retF y0) (fun n14 n15 => f6_w1A k c12 c13 c14 c20 c21 c22 retF p1 p2 p3 n14 n15) p1 p2 p3 := by kernel_rfl

noncomputable def f6_N (k : Nat) (c12 : (Bool → R) → R) (c13 : PV → Int → (Bool → R) → R) (c14 : PV → PV → (Int → R) → R) (c20 : PV → (Int → Bool → R) → R) (c21 : PV → PV → (Int → R) → R) (c22 : PV → (PV → R) → R) (ret0 : Bool → R) (p1 : PV) (p2 : PV) (p3 : PV) : R :=
  f6_e c12 c13 c14 c20 c21 c22 ret0 (fun n14 n15 => f6_w1N k c12 c13 c14 c20 c21 c22 ret0 p1 p2 p3 n14 n15) p1 p2 p3
theorem f6_eq (k : Nat) (c12 : (Bool → R) → R) (c13 : PV → Int → (Bool → R) → R) (c14 : PV → PV → (Int → R) → R) (c20 : PV → (Int → Bool → R) → R) (c21 : PV → PV → (Int → R) → R) (c22 : PV → (PV → R) → R) (retF : Bool → R) (p1 : PV) (p2 : PV) (p3 : PV) : exec (f6_E k c12 c13 c14 c20 c21 c22) f6_code (endK (f6_E k c12 c13 c14 c20 c21 c22) Try.f6 [] f6_un retF) ⟨[.val 24 p1, .val 24 p2, .val 22 p3, .undef, .undef, .undef, .undef, .undef, .undef, .undef, .undef, .undef, .undef, .undef, .undef, .undef, .undef, .undef, .undef, .undef, .undef, .undef, .undef, .undef, .undef, .undef, .undef, .undef, .undef, .undef, .undef, .undef, .undef, .undef, .undef, .undef, .undef, .undef, .undef, .undef, .undef, .undef, .undef, .undef, .undef, .undef, .undef, .undef, .undef, .undef, .undef, .undef, .undef, .undef, .undef, .undef, .undef, .undef, .undef, .undef, .undef, .undef, .undef, .undef, .undef, .undef, .undef, .undef, .undef, .undef, .undef, .undef, .undef, .undef, .undef, .undef, .undef, .undef, .undef, .undef, .undef], []⟩ = f6_N k c12 c13 c14 c20 c21 c22 (fun y0 => retF y0) p1 p2 p3 :=
  (f6_e_mem k c12 c13 c14 c20 c21 c22 retF p1 p2 p3).trans (by rw [show (fun n14 n15 => f6_w1A k c12 c13 c14 c20 c21 c22 retF p1 p2 p3 n14 n15) = (fun n14 n15 => f6_w1N k c12 c13 c14 c20 c21 c22 (fun y0 => retF y0) p1 p2 p3 n14 n15) from funext fun n14 => funext fun n15 => f6_w1_eq k c12 c13 c14 c20 c21 c22 retF p1 p2 p3 n14 n15]; rfl)

noncomputable def G6 : Nat → PV → PV → PV → (Bool → R) → R
  | 0, _, _, _, _ => none
  | k + 1, p1, p2, p3, ret0 => f6_N k (G12 k) (G13 k) (G14 k) (G20 k) (G21 k) (G22 k) ret0 p1 p2 p3
theorem S6 : ∀ k, Snd Try.prog 6 f6_I f6_O (fun x ret => G6 k x.1 x.2.1 x.2.2 (fun y0 => ret y0))
  | 0 => snd_none
  | k + 1 => snd_step (E := f6_E k (G12 k) (G13 k) (G14 k) (G20 k) (G21 k) (G22 k)) rfl laidOut noNums (orc_ok (S12 k) f12_D_ok (orc_ok (S13 k) f13_D_ok (orc_ok (S14 k) f14_D_ok (orc_ok (S20 k) f20_D_ok (orc_ok (S21 k) f21_D_ok (orc_ok (S22 k) f22_D_ok orc0_ok)))))) (f := 6) (fn := Try.f6) (code := f6_code) Try.func6 (by kernel_rfl) (drawsOk_of laidOut (orc_ok (S12 k) f12_D_ok (orc_ok (S13 k) f13_D_ok (orc_ok (S14 k) f14_D_ok (orc_ok (S20 k) f20_D_ok (orc_ok (S21 k) f21_D_ok (orc_ok (S22 k) f22_D_ok orc0_ok)))))) mixed (by kernel_rfl)) f6_un f6_un_ok [] (fun _ => rfl)
      (fun x ret => f6_eq k (G12 k) (G13 k) (G14 k) (G20 k) (G21 k) (G22 k) ret x.1 x.2.1 x.2.2)

/- catchpole/catchpolelaw13.RankBest -/
noncomputable def f7_I : PV × Int → List SV × Obs := fun x => ([.val 22 x.1, .int .i64 x.2], [])
noncomputable def f7_D : List SV → Obs → Option (PV × Int)
  | [.val 22 p1, .int .i64 n2], [] => some (p1, n2)
  | _, _ => none
theorem f7_D_ok (args : List SV) (B : Obs) (x : PV × Int) (h : f7_D args B = some x) : f7_I x = (args, B) := by
  unfold f7_D at h
  split at h
  · injection h with h; subst h; rfl
  · cases h
noncomputable def f7_O : Bool → Out := (fun y => ([.bool y], []))
noncomputable def f7_un : Out → Option (Bool)
  | ([.bool y0], []) => some y0
  | _ => none
theorem f7_un_ok (o : Out) (y : Bool) (h : f7_un o = some y) : o = f7_O y := by
  unfold f7_un at h
  split at h
  · injection h with h; subst h; rfl
  · cases h
noncomputable def f7_msk : Nat → Option (List Nat) := fun key => bif key == 21 then some [0, 1, 5, 6] else bif key == 51 then some [0, 5, 7, 9, 11] else none
noncomputable def f7_C (c12 : (Bool → R) → R) (c13 : PV → Int → (Bool → R) → R) (c14 : PV → PV → (Int → R) → R) (c20 : PV → (Int → Bool → R) → R) : Oracle := orc 12 f12_D f12_O (fun x ret => c12 (fun y0 => ret y0)) <| orc 13 f13_D f13_O (fun x ret => c13 x.1 x.2 (fun y0 => ret y0)) <| orc 14 f14_D f14_O (fun x ret => c14 x.1 x.2 (fun y0 => ret y0)) <| orc 20 f20_D f20_O (fun x ret => c20 x (fun y0 y1 => ret (y0, y1))) <| orc0
noncomputable def f7_E (k : Nat) (c12 : (Bool → R) → R) (c13 : PV → Int → (Bool → R) → R) (c14 : PV → PV → (Int → R) → R) (c20 : PV → (Int → Bool → R) → R) : Env := { P := Try.prog, nilOwn := fun d => d == 5, fldOwn := fun d i => false, ownPar := ownPars, ownRet := false, mask := f7_msk, fuel := k, C := f7_C c12 c13 c14 c20 }
noncomputable def f7_code : Code := Try.f7.body.getD .skip
noncomputable def f7_cw1 : Code := subC f7_code [1, 1, 1, 1, 0, 1, 0, 0]
noncomputable def f7_hw1_0 (p1 : PV) (n2 : Int) (n16 : Int) (l17 : List PV) : St := ⟨[.val 22 p1, .int .i64 n2, .dead, .dead, .dead, .own 22 5, .int .i64 n16, .dead, .dead, .dead, .dead, .dead, .dead, .dead, .dead, .dead, .dead, .dead, .dead, .dead, .dead, .dead, .dead, .dead, .dead, .dead, .dead, .dead, .dead, .dead, .dead, .dead, .dead, .dead, .dead, .dead, .dead, .dead, .dead, .dead, .dead, .dead, .dead, .dead, .dead, .dead, .dead, .dead, .dead, .dead, .dead, .dead, .dead, .dead, .dead, .dead, .dead, .dead, .dead, .dead, .dead, .dead, .dead, .dead, .dead, .dead, .dead, .dead, .dead, .dead, .dead, .dead, .dead, .dead, .dead, .dead, .dead, .dead, .dead, .dead, .dead, .dead, .dead, .dead, .dead, .dead, .dead, .dead, .dead, .dead, .dead, .dead, .dead, .dead, .dead, .dead, .dead, .dead, .dead, .dead, .dead, .dead, .dead, .dead, .dead, .dead, .dead, .dead, .dead, .dead, .dead, .dead, .dead, .dead, .dead, .dead, .dead, .dead, .dead, .dead, .dead, .dead, .dead, .dead, .dead, .dead, .dead, .dead, .dead, .dead, .dead], [(5, .row 24 l17)]⟩
noncomputable def f7_w1A (k : Nat) (c12 : (Bool → R) → R) (c13 : PV → Int → (Bool → R) → R) (c14 : PV → PV → (Int → R) → R) (c20 : PV → (Int → Bool → R) → R) (retF : Bool → R) (p1 : PV) (n2 : Int) (n16 : Int) (l17 : List PV) : R := loopM (f7_E k c12 c13 c14 c20) f7_cw1 (kont (f7_E k c12 c13 c14 c20) f7_code [1, 1, 1, 1, 0, 1, 0] (endK (f7_E k c12 c13 c14 c20) Try.f7 [] f7_un retF)) k (f7_hw1_0 p1 n2 n16 l17)
noncomputable def f7_cw3 : Code := subC f7_code [1, 1, 1, 1, 1, 1, 1, 1, 0, 1, 0, 0]
noncomputable def f7_hw3_0 (p1 : PV) (l17 : List PV) (n19 : Int) (n21 : Int) (n26 : Int) : St := ⟨[.val 22 p1, .dead, .dead, .dead, .dead, .own 22 5, .dead, .int .i64 n19, .dead, .int .i64 n21, .dead, .int .i64 n26, .dead, .dead, .dead, .dead, .dead, .dead, .dead, .dead, .dead, .dead, .dead, .dead, .dead, .dead, .dead, .dead, .dead, .dead, .dead, .dead, .dead, .dead, .dead, .dead, .dead, .dead, .dead, .dead, .dead, .dead, .dead, .dead, .dead, .dead, .dead, .dead, .dead, .dead, .dead, .dead, .dead, .dead, .dead, .dead, .dead, .dead, .dead, .dead, .dead, .dead, .dead, .dead, .dead, .dead, .dead, .dead, .dead, .dead, .dead, .dead, .dead, .dead, .dead, .dead, .dead, .dead, .dead, .dead, .dead, .dead, .dead, .dead, .dead, .dead, .dead, .dead, .dead, .dead, .dead, .dead, .dead, .dead, .dead, .dead, .dead, .dead, .dead, .dead, .dead, .dead, .dead, .dead, .dead, .dead, .dead, .dead, .dead, .dead, .dead, .dead, .dead, .dead, .dead, .dead, .dead, .dead, .dead, .dead, .dead, .dead, .dead, .dead, .dead, .dead, .dead, .dead, .dead, .dead, .dead], [(5, .row 24 l17)]⟩
noncomputable def f7_w3A (k : Nat) (c12 : (Bool → R) → R) (c13 : PV → Int → (Bool → R) → R) (c14 : PV → PV → (Int → R) → R) (c20 : PV → (Int → Bool → R) → R) (retF : Bool → R) (p1 : PV) (l17 : List PV) (n19 : Int) (n21 : Int) (n26 : Int) : R := loopM (f7_E k c12 c13 c14 c20) f7_cw3 (kont (f7_E k c12 c13 c14 c20) f7_code [1, 1, 1, 1, 1, 1, 1, 1, 0, 1, 0] (endK (f7_E k c12 c13 c14 c20) Try.f7 [] f7_un retF)) k (f7_hw3_0 p1 l17 n19 n21 n26)
noncomputable def f7_w3b0 (c12 : (Bool → R) → R) (c13 : PV → Int → (Bool → R) → R) (c14 : PV → PV → (Int → R) → R) (c20 : PV → (Int → Bool → R) → R) (ret0 : Bool → R) (next_w3_0 : Int → R) (p1 : PV) (l17 : List PV) (n19 : Int) (n21 : Int) (n26 : Int) : R :=
  bif (decide (n26 < (List.length (PV.els p1) : Int))) then
    bif (true && decide ((0 : Int) ≤ n26) && decide (n26 < (List.length (PV.els p1) : Int))) then
      bif (true && decide ((0 : Int) ≤ n19) && decide (n19 < (List.length (PV.els p1) : Int))) then
        c14 (List.getD (PV.els p1) (n26).toNat PV.nil) (List.getD (PV.els p1) (n19).toNat PV.nil) fun n27 =>
        bif ((decide (n27 < (0 : Int))) == false) then
          bif ((decide (n26 < n19)) == true) then
            bif (true && decide ((0 : Int) ≤ n26) && decide (n26 < (List.length (PV.els p1) : Int))) then
              bif (true && decide ((0 : Int) ≤ n19) && decide (n19 < (List.length (PV.els p1) : Int))) then
                c14 (List.getD (PV.els p1) (n26).toNat PV.nil) (List.getD (PV.els p1) (n19).toNat PV.nil) fun n28 =>
                bif (decide (n28 = (0 : Int))) then
                  ret0 false
                else next_w3_0 (IntKind.wrap .i64 (n26 + (1 : Int)))
              else none
            else none
          else next_w3_0 (IntKind.wrap .i64 (n26 + (1 : Int)))
        else ret0 false
      else none
    else none
  else bif (true && decide ((0 : Int) ≤ n19) && decide (n19 < (List.length (PV.els p1) : Int))) then
    bif (true && true && decide ((0 : Int) ≤ n21) && decide (n21 < (List.length l17 : Int))) then
      c14 (List.getD (PV.els p1) (n19).toNat PV.nil) (List.getD l17 (n21).toNat PV.nil) fun n29 =>
      ret0 (decide (n29 = (0 : Int)))
    else none
  else none

theorem f7_w3b0_mem (k : Nat) (c12 : (Bool → R) → R) (c13 : PV → Int → (Bool → R) → R) (c14 : PV → PV → (Int → R) → R) (c20 : PV → (Int → Bool → R) → R) (retF : Bool → R) (NX_w3 : St → R) (p1 : PV) (l17 : List PV) (n19 : Int) (n21 : Int) (n26 : Int) : exec (f7_E k c12 c13 c14 c20) f7_cw3 (purgeK (f7_E k c12 c13 c14 c20) f7_cw3 (loopK NX_w3 (kont (f7_E k c12 c13 c14 c20) f7_code [1, 1, 1, 1, 1, 1, 1, 1, 0, 1, 0] (endK (f7_E k c12 c13 c14 c20) Try.f7 [] f7_un retF)))) (f7_hw3_0 p1 l17 n19 n21 n26) = f7_w3b0 c12 c13 c14 c20 (fun y0 => retF y0) (fun n26 => NX_w3 (f7_hw3_0 p1 l17 n19 n21 n26)) p1 l17 n19 n21 n26 := by kernel_rfl

noncomputable def f7_w3b0N (k : Nat) (c12 : (Bool → R) → R) (c13 : PV → Int → (Bool → R) → R) (c14 : PV → PV → (Int → R) → R) (c20 : PV → (Int → Bool → R) → R) (ret0 : Bool → R) (next_w3_0 : Int → R) (p1 : PV) (l17 : List PV) (n19 : Int) (n21 : Int) (n26 : Int) : R :=
  f7_w3b0 c12 c13 c14 c20 ret0 next_w3_0 p1 l17 n19 n21 n26
theorem f7_w3b0_eq (k : Nat) (c12 : (Bool → R) → R) (c13 : PV → Int → (Bool → R) → R) (c14 : PV → PV → (Int → R) → R) (c20 : PV → (Int → Bool → R) → R) (retF : Bool → R) (NX_w3 : St → R) (p1 : PV) (l17 : List PV) (n19 : Int) (n21 : Int) (n26 : Int) : exec (f7_E k c12 c13 c14 c20) f7_cw3 (purgeK (f7_E k c12 c13 c14 c20) f7_cw3 (loopK NX_w3 (kont (f7_E k c12 c13 c14 c20) f7_code [1, 1, 1, 1, 1, 1, 1, 1, 0, 1, 0] (endK (f7_E k c12 c13 c14 c20) Try.f7 [] f7_un retF)))) (f7_hw3_0 p1 l17 n19 n21 n26) = f7_w3b0N k c12 c13 c14 c20 (fun y0 => retF y0) (fun n26 => NX_w3 (f7_hw3_0 p1 l17 n19 n21 n26)) p1 l17 n19 n21 n26 :=
  (f7_w3b0_mem k c12 c13 c14 c20 retF NX_w3 p1 l17 n19 n21 n26)

noncomputable def f7_w3B (k : Nat) (c12 : (Bool → R) → R) (c13 : PV → Int → (Bool → R) → R) (c14 : PV → PV → (Int → R) → R) (c20 : PV → (Int → Bool → R) → R) (ret0 : Bool → R) (p1 : PV) (l17 : List PV) (n19 : Int) (n21 : Int) (nx : Int → R) : Int → R := (fun s => f7_w3b0N k c12 c13 c14 c20 ret0 (fun n26 => nx n26) p1 l17 n19 n21 s)
noncomputable def f7_w3N (k : Nat) (c12 : (Bool → R) → R) (c13 : PV → Int → (Bool → R) → R) (c14 : PV → PV → (Int → R) → R) (c20 : PV → (Int → Bool → R) → R) (ret0 : Bool → R) (p1 : PV) (l17 : List PV) (n19 : Int) (n21 : Int) (n26 : Int) : R := loopR (f7_w3B k c12 c13 c14 c20 ret0 p1 l17 n19 n21) k n26
theorem f7_w3_eq (k : Nat) (c12 : (Bool → R) → R) (c13 : PV → Int → (Bool → R) → R) (c14 : PV → PV → (Int → R) → R) (c20 : PV → (Int → Bool → R) → R) (retF : Bool → R) (p1 : PV) (l17 : List PV) (n19 : Int) (n21 : Int) (n26 : Int) : f7_w3A k c12 c13 c14 c20 retF p1 l17 n19 n21 n26 = f7_w3N k c12 c13 c14 c20 (fun y0 => retF y0) p1 l17 n19 n21 n26 :=
  Eq.mp (by kernel_rfl) (loop_sim (E := (f7_E k c12 c13 c14 c20)) (c := f7_cw3) (K := (kont (f7_E k c12 c13 c14 c20) f7_code [1, 1, 1, 1, 1, 1, 1, 1, 0, 1, 0] (endK (f7_E k c12 c13 c14 c20) Try.f7 [] f7_un retF))) (S := Int) (fun s => f7_hw3_0 p1 l17 n19 n21 s) (f7_w3B k c12 c13 c14 c20 (fun y0 => retF y0) p1 l17 n19 n21) (fun NX s => by
    exact Eq.mp (by kernel_rfl) (f7_w3b0_eq k c12 c13 c14 c20 retF NX p1 l17 n19 n21 s)) k n26)

noncomputable def f7_w1b0 (c12 : (Bool → R) → R) (c13 : PV → Int → (Bool → R) → R) (c14 : PV → PV → (Int → R) → R) (c20 : PV → (Int → Bool → R) → R) (ret0 : Bool → R) (w3 : Int → Int → Int → R) (next_w1_0 : Int → (List PV) → R) (p1 : PV) (n2 : Int) (n16 : Int) (l17 : List PV) : R :=
  bif (decide (n16 < (List.length (PV.els p1) : Int))) then
    bif (true && decide ((0 : Int) ≤ n16) && decide (n16 < (List.length (PV.els p1) : Int))) then
      c13 (List.getD (PV.els p1) (n16).toNat PV.nil) 20 fun b18 =>
      bif b18 then
        ret0 true
      else bif (decide ((List.length (PV.els p1) : Int) = (0 : Int))) then
        none
      else bif (decide ((List.length (PV.els p1) : Int) = (0 : Int))) then
        none
      else bif (true && decide ((0 : Int) ≤ (Int.tmod (IntKind.wrap .i64 (n16 + (Int.tmod n2 (List.length (PV.els p1) : Int)))) (List.length (PV.els p1) : Int))) && decide ((Int.tmod (IntKind.wrap .i64 (n16 + (Int.tmod n2 (List.length (PV.els p1) : Int)))) (List.length (PV.els p1) : Int)) < (List.length (PV.els p1) : Int))) then
        bif (true && roomy (List.length l17 + List.length [(List.getD (PV.els p1) ((Int.tmod (IntKind.wrap .i64 (n16 + (Int.tmod n2 (List.length (PV.els p1) : Int)))) (List.length (PV.els p1) : Int))).toNat PV.nil)]) 40) then
          next_w1_0 (IntKind.wrap .i64 (n16 + (1 : Int))) (l17 ++ [(List.getD (PV.els p1) ((Int.tmod (IntKind.wrap .i64 (n16 + (Int.tmod n2 (List.length (PV.els p1) : Int)))) (List.length (PV.els p1) : Int))).toNat PV.nil)])
        else none
      else none
    else none
  else c20 p1 fun n19 b20 =>
  c20 (PV.list l17) fun n21 b22 =>
  bif ((!b20) == false) then
    bif ((!b22) == false) then
      bif ((decide (n19 < (0 : Int))) == false) then
        bif ((decide (n21 < (0 : Int))) == false) then
          bif ((decide ((List.length (PV.els p1) : Int) ≤ n19)) == false) then
            bif (decide ((List.length l17 : Int) ≤ n21)) then
              ret0 false
            else w3 n19 n21 0
          else ret0 false
        else ret0 false
      else ret0 false
    else ret0 false
  else ret0 false

theorem f7_w1b0_mem (k : Nat) (c12 : (Bool → R) → R) (c13 : PV → Int → (Bool → R) → R) (c14 : PV → PV → (Int → R) → R) (c20 : PV → (Int → Bool → R) → R) (retF : Bool → R) (NX_w1 : St → R) (p1 : PV) (n2 : Int) (n16 : Int) (l17 : List PV) : exec (f7_E k c12 c13 c14 c20) f7_cw1 (purgeK (f7_E k c12 c13 c14 c20) f7_cw1 (loopK NX_w1 (kont (f7_E k c12 c13 c14 c20) f7_code [1, 1, 1, 1, 0, 1, 0] (endK (f7_E k c12 c13 c14 c20) Try.f7 [] f7_un retF)))) (f7_hw1_0 p1 n2 n16 l17) = f7_w1b0 c12 c13 c14 c20 (fun y0 => retF y0) (fun n19 n21 n26 => f7_w3A k c12 c13 c14 c20 retF p1 l17 n19 n21 n26) (fun n16 l17 => NX_w1 (f7_hw1_0 p1 n2 n16 l17)) p1 n2 n16 l17 := by kernel_rfl

noncomputable def f7_w1b0N (k : Nat) (c12 : (Bool → R) → R) (c13 : PV → Int → (Bool → R) → R) (c14 : PV → PV → (Int → R) → R) (c20 : PV → (Int → Bool → R) → R) (ret0 : Bool → R) (next_w1_0 : Int → (List PV) → R) (p1 : PV) (n2 : Int) (n16 : Int) (l17 : List PV) : R :=
  f7_w1b0 c12 c13 c14 c20 ret0 (fun n19 n21 n26 => f7_w3N k c12 c13 c14 c20 ret0 p1 l17 n19 n21 n26) next_w1_0 p1 n2 n16 l17
theorem f7_w1b0_eq (k : Nat) (c12 : (Bool → R) → R) (c13 : PV → Int → (Bool → R) → R) (c14 : PV → PV → (Int → R) → R) (c20 : PV → (Int → Bool → R) → R) (retF : Bool → R) (NX_w1 : St → R) (p1 : PV) (n2 : Int) (n16 : Int) (l17 : List PV) : exec (f7_E k c12 c13 c14 c20) f7_cw1 (purgeK (f7_E k c12 c13 c14 c20) f7_cw1 (loopK NX_w1 (kont (f7_E k c12 c13 c14 c20) f7_code [1, 1, 1, 1, 0, 1, 0] (endK (f7_E k c12 c13 c14 c20) Try.f7 [] f7_un retF)))) (f7_hw1_0 p1 n2 n16 l17) = f7_w1b0N k c12 c13 c14 c20 (fun y0 => retF y0) (fun n16 l17 => NX_w1 (f7_hw1_0 p1 n2 n16 l17)) p1 n2 n16 l17 :=
  (f7_w1b0_mem k c12 c13 c14 c20 retF NX_w1 p1 n2 n16 l17).trans (by rw [show (fun n19 n21 n26 => f7_w3A k c12 c13 c14 c20 retF p1 l17 n19 n21 n26) = (fun n19 n21 n26 => f7_w3N k c12 c13 c14 c20 (fun y0 => retF y0) p1 l17 n19 n21 n26) from funext fun n19 => funext fun n21 => funext fun n26 => f7_w3_eq k c12 c13 c14 c20 retF p1 l17 n19 n21 n26]; rfl)

noncomputable def f7_w1B (k : Nat) (c12 : (Bool → R) → R) (c13 : PV → Int → (Bool → R) → R) (c14 : PV → PV → (Int → R) → R) (c20 : PV → (Int → Bool → R) → R) (ret0 : Bool → R) (p1 : PV) (n2 : Int) (nx : Int × (List PV) → R) : Int × (List PV) → R := (fun s => f7_w1b0N k c12 c13 c14 c20 ret0 (fun n16 l17 => nx (n16, l17)) p1 n2 s.1 s.2)
noncomputable def f7_w1N (k : Nat) (c12 : (Bool → R) → R) (c13 : PV → Int → (Bool → R) → R) (c14 : PV → PV → (Int → R) → R) (c20 : PV → (Int → Bool → R) → R) (ret0 : Bool → R) (p1 : PV) (n2 : Int) (n16 : Int) (l17 : List PV) : R := loopR (f7_w1B k c12 c13 c14 c20 ret0 p1 n2) k (n16, l17)
theorem f7_w1_eq (k : Nat) (c12 : (Bool → R) → R) (c13 : PV → Int → (Bool → R) → R) (c14 : PV → PV → (Int → R) → R) (c20 : PV → (Int → Bool → R) → R) (retF : Bool → R) (p1 : PV) (n2 : Int) (n16 : Int) (l17 : List PV) : f7_w1A k c12 c13 c14 c20 retF p1 n2 n16 l17 = f7_w1N k c12 c13 c14 c20 (fun y0 => retF y0) p1 n2 n16 l17 :=
  Eq.mp (by kernel_rfl) (loop_sim (E := (f7_E k c12 c13 c14 c20)) (c := f7_cw1) (K := (kont (f7_E k c12 c13 c14 c20) f7_code [1, 1, 1, 1, 0, 1, 0] (endK (f7_E k c12 c13 c14 c20) Try.f7 [] f7_un retF))) (S := Int × (List PV)) (fun s => f7_hw1_0 p1 n2 s.1 s.2) (f7_w1B k c12 c13 c14 c20 (fun y0 => retF y0) p1 n2) (fun NX s => by
    exact Eq.mp (by kernel_rfl) (f7_w1b0_eq k c12 c13 c14 c20 retF NX p1 n2 s.1 s.2)) k (n16, l17))

noncomputable def f7_e (c12 : (Bool → R) → R) (c13 : PV → Int → (Bool → R) → R) (c14 : PV → PV → (Int → R) → R) (c20 : PV → (Int → Bool → R) → R) (ret0 : Bool → R) (w1 : Int → (List PV) → R) (p1 : PV) (n2 : Int) : R :=
  c12 fun b3 =>
  bif (!b3) then
    ret0 false
  else bif ((decide ((List.length (PV.els p1) : Int) < (1 : Int))) == false) then
    bif ((decide ((12 : Int) < (List.length (PV.els p1) : Int))) == false) then
      bif (decide (n2 < (0 : Int))) then
        ret0 true
      else w1 0 []
    else ret0 true
  else ret0 true

theorem f7_e_mem (k : Nat) (c12 : (Bool → R) → R) (c13 : PV → Int → (Bool → R) → R) (c14 : PV → PV → (Int → R) → R) (c20 : PV → (Int → Bool → R) → R) (retF : Bool → R) (p1 : PV) (n2 : Int) : exec (f7_E k c12 c13 c14 c20) f7_code (endK (f7_E k c12 c13 c14 c20) Try.f7 [] f7_un retF) ⟨[.val 22 p1, .int .i64 n2, .undef, .undef, .undef, .undef, .undef, .undef, .undef, .undef, .undef, .undef, .undef, .undef, .undef, .undef, .undef, .undef, .undef, .undef, .undef, .undef, .undef, .undef, .undef, .undef, .undef, .undef, .undef, .undef, .undef, .undef, .undef, .undef, .undef, .undef, .undef, .undef, .undef, .undef, .undef, .undef, .undef, .undef, .undef, .undef, .undef, .undef, .undef, .undef, .undef, .undef, .undef, .undef, .undef, .undef, .undef, .undef, .undef, .undef, .undef, .undef, .undef, .undef, .undef, .undef, .undef, .undef, .undef, .undef, .undef, .undef, .undef, .undef, .undef, .undef, .undef, .undef, .undef, .undef, .undef, .undef, .undef, .undef, .undef, .undef, .undef, .undef, .undef, .undef, .undef, .undef, .undef, .undef, .undef, .undef, .undef, .undef, .undef, .undef, .undef, .undef, .undef, .undef, .undef, .undef, .undef, .undef, .undef, .undef, .undef, .undef, .undef, .undef, .undef, .undef, .undef, .undef, .undef, .undef, .undef, .undef, .undef, .undef, .undef, .undef, .undef, .undef, .undef, .undef, .undef], []⟩ = f7_e c12 c13 c14 c20 (fun y0 => retF y0) (fun n16 l17 => f7_w1A k c12 c13 c14 c20 retF p1 n2 n16 l17) p1 n2 := by kernel_rfl

noncomputable def f7_N (k : Nat) (c12 : (Bool → R) → R) (c13 : PV → Int → (Bool → R) → R) (c14 : PV → PV → (Int → R) → R) (c20 : PV → (Int → Bool → R) → R) (ret0 : Bool → R) (p1 : PV) (n2 : Int) : R :=
  f7_e c12 c13 c14 c20 ret0 (fun n16 l17 => f7_w1N k c12 c13 c14 c20 ret0 p1 n2 n16 l17) p1 n2
theorem f7_eq (k : Nat) (c12 : (Bool → R) → R) (c13 : PV → Int → (Bool → R) → R) (c14 : PV → PV → (Int → R) → R) (c20 : PV → (Int → Bool → R) → R) (retF : Bool → R) (p1 : PV) (n2 : Int) : exec (f7_E k c12 c13 c14 c20) f7_code (endK (f7_E k c12 c13 c14 c20) Try.f7 [] f7_un retF) ⟨[.val 22 p1, .int .i64 n2, .undef, .undef, .undef, .undef, .undef, .undef, .undef, .undef, .undef, .undef, .undef, .undef, .undef, .undef, .undef, .undef, .undef, .undef, .undef, .undef, .undef, .undef, .undef, .undef, .undef, .undef, .undef, .undef, .undef, .undef, .undef, .undef, .undef, .undef, .undef, .undef, .undef, .undef, .undef, .undef, .undef, .undef, .undef, .undef, .undef, .undef, .undef, .undef, .undef, .undef, .undef, .undef, .undef, .undef, .undef, .undef, .undef, .undef, .undef, .undef, .undef, .undef, .undef, .undef, .undef, .undef, .undef, .undef, .undef, .undef, .undef, .undef, .undef, .undef, .undef, .undef, .undef, .undef, .undef, .undef, .undef, .undef, .undef, .undef, .undef, .undef, .undef, .undef, .undef, .undef, .undef, .undef, .undef, .undef, .undef, .undef, .undef, .undef, .undef, .undef, .undef, .undef, .undef, .undef, .undef, .undef, .undef, .undef, .undef, .undef, .undef, .undef, .undef, .undef, .undef, .undef, .undef, .undef, .undef, .undef, .undef, .undef, .undef, .undef, .undef, .undef, .undef, .undef, .undef], []⟩ = f7_N k c12 c13 c14 c20 (fun y0 => retF y0) p1 n2 :=
  (f7_e_mem k c12 c13 c14 c20 retF p1 n2).trans (by rw [show (fun n16 l17 => f7_w1A k c12 c13 c14 c20 retF p1 n2 n16 l17) = (fun n16 l17 => f7_w1N k c12 c13 c14 c20 (fun y0 => retF y0) p1 n2 n16 l17) from funext fun n16 => funext fun l17 => f7_w1_eq k c12 c13 c14 c20 retF p1 n2 n16 l17]; rfl)

noncomputable def G7 : Nat → PV → Int → (Bool → R) → R
  | 0, _, _, _ => none
  | k + 1, p1, n2, ret0 => f7_N k (G12 k) (G13 k) (G14 k) (G20 k) ret0 p1 n2
theorem S7 : ∀ k, Snd Try.prog 7 f7_I f7_O (fun x ret => G7 k x.1 x.2 (fun y0 => ret y0))
  | 0 => snd_none
  | k + 1 => snd_step (E := f7_E k (G12 k) (G13 k) (G14 k) (G20 k)) rfl laidOut noNums (orc_ok (S12 k) f12_D_ok (orc_ok (S13 k) f13_D_ok (orc_ok (S14 k) f14_D_ok (orc_ok (S20 k) f20_D_ok orc0_ok)))) (f := 7) (fn := Try.f7) (code := f7_code) Try.func7 (by kernel_rfl) (drawsOk_of laidOut (orc_ok (S12 k) f12_D_ok (orc_ok (S13 k) f13_D_ok (orc_ok (S14 k) f14_D_ok (orc_ok (S20 k) f20_D_ok orc0_ok)))) mixed (by kernel_rfl)) f7_un f7_un_ok [] (fun _ => rfl)
      (fun x ret => f7_eq k (G12 k) (G13 k) (G14 k) (G20 k) ret x.1 x.2)

end Go.Proofs.Ytbmhbnkejgjfdaa
