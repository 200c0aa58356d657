/- Functions of the program as Lean functions, each tied to the program by the kernel: catchpolelaw14.EagerTotal, catchpolelaw14.EagerParts, catchpolelaw14.EagerKnown, catchpolelaw14.EagerSays -/
import Derived.Test.YtbmhbnkejgjfdaaXC
import Derived.Test.YtbmhbnkejgjfdaaProg
import Derived.KernelRfl
import Derived.Test.YtbmhbnkejgjfdaaBld
set_option linter.unusedVariables false
set_option maxRecDepth 100000
namespace Go.Proofs.Ytbmhbnkejgjfdaa
open Go Go.X
theorem laidOut : laidOutB Try.prog = true := by kernel_rfl
theorem noNums : noNum Try.prog = true := by kernel_rfl
theorem mixed : Try.prog.follows .mixedOrders = true := by kernel_rfl
noncomputable def ownPars : FuncId → Nat → Bool := fun f i => (f == 47 && i == 0)

/- catchpole/catchpolelaw14.byt -/
noncomputable def f30_I : Int → List SV × Obs := fun x => ([.int .u8 x], [])
noncomputable def f30_D : List SV → Obs → Option (Int)
  | [.int .u8 n1], [] => some n1
  | _, _ => none
theorem f30_D_ok (args : List SV) (B : Obs) (x : Int) (h : f30_D args B = some x) : f30_I x = (args, B) := by
  unfold f30_D at h
  split at h
  · injection h with h; subst h; rfl
  · cases h
noncomputable def f30_O : PV → Out := (fun y => ([.val 24 y], []))
noncomputable def f30_un : Out → Option (PV)
  | ([.val 24 y0], []) => some y0
  | _ => none
theorem f30_un_ok (o : Out) (y : PV) (h : f30_un o = some y) : o = f30_O y := by
  unfold f30_un at h
  split at h
  · injection h with h; subst h; rfl
  · cases h
noncomputable def f30_msk : Nat → Option (List Nat) := fun key =>  none
noncomputable def f30_C : Oracle := orc0
noncomputable def f30_E (k : Nat) : Env := { P := Try.prog, nilOwn := fun d => false, fldOwn := fun d i => false, ownPar := ownPars, ownRet := false, mask := f30_msk, fuel := k, C := f30_C }
noncomputable def f30_code : Code := Try.f30.body.getD .skip
noncomputable def f30_e (ret0 : PV → R) (n1 : Int) : R :=
  ret0 (PV.agg [(PV.int 2), (PV.int n1), (PV.list [])])

theorem f30_e_mem (k : Nat) (retF : PV → R) (n1 : Int) : exec (f30_E k) f30_code (endK (f30_E k) Try.f30 [] f30_un retF) ⟨[.int .u8 n1, .undef, .undef, .undef, .undef], []⟩ = f30_e (fun y0 => retF y0) n1 := by kernel_rfl

noncomputable def f30_N (k : Nat) (ret0 : PV → R) (n1 : Int) : R :=
  f30_e ret0 n1
theorem f30_eq (k : Nat) (retF : PV → R) (n1 : Int) : exec (f30_E k) f30_code (endK (f30_E k) Try.f30 [] f30_un retF) ⟨[.int .u8 n1, .undef, .undef, .undef, .undef], []⟩ = f30_N k (fun y0 => retF y0) n1 :=
  (f30_e_mem k retF n1)

noncomputable def G30 : Nat → Int → (PV → R) → R
  | 0, _, _ => none
  | k + 1, n1, ret0 => f30_N k  ret0 n1
theorem S30 : ∀ k, Snd Try.prog 30 f30_I f30_O (fun x ret => G30 k x (fun y0 => ret y0))
  | 0 => snd_none
  | k + 1 => snd_step (E := f30_E k ) rfl laidOut noNums orc0_ok (f := 30) (fn := Try.f30) (code := f30_code) Try.func30 (by kernel_rfl) (drawsOk_of laidOut orc0_ok mixed (by kernel_rfl)) f30_un f30_un_ok [] (fun _ => rfl)
      (fun x ret => f30_eq k  ret x)

/- catchpole/catchpolelaw14.left -/
noncomputable def f28_I : PV → List SV × Obs := fun x => ([.val 24 x], [])
noncomputable def f28_D : List SV → Obs → Option (PV)
  | [.val 24 p1], [] => some p1
  | _, _ => none
theorem f28_D_ok (args : List SV) (B : Obs) (x : PV) (h : f28_D args B = some x) : f28_I x = (args, B) := by
  unfold f28_D at h
  split at h
  · injection h with h; subst h; rfl
  · cases h
noncomputable def f28_O : PV → Out := (fun y => ([.val 24 y], []))
noncomputable def f28_un : Out → Option (PV)
  | ([.val 24 y0], []) => some y0
  | _ => none
theorem f28_un_ok (o : Out) (y : PV) (h : f28_un o = some y) : o = f28_O y := by
  unfold f28_un at h
  split at h
  · injection h with h; subst h; rfl
  · cases h
noncomputable def f28_msk : Nat → Option (List Nat) := fun key =>  none
noncomputable def f28_C : Oracle := orc0
noncomputable def f28_E (k : Nat) : Env := { P := Try.prog, nilOwn := fun d => false, fldOwn := fun d i => false, ownPar := ownPars, ownRet := false, mask := f28_msk, fuel := k, C := f28_C }
noncomputable def f28_code : Code := Try.f28.body.getD .skip
noncomputable def f28_e (ret0 : PV → R) (p1 : PV) : R :=
  ret0 (PV.agg [(PV.int 4), (PV.int 0), (PV.list [p1])])

theorem f28_e_mem (k : Nat) (retF : PV → R) (p1 : PV) : exec (f28_E k) f28_code (endK (f28_E k) Try.f28 [] f28_un retF) ⟨[.val 24 p1, .undef, .undef, .undef, .undef, .undef], []⟩ = f28_e (fun y0 => retF y0) p1 := by kernel_rfl

noncomputable def f28_N (k : Nat) (ret0 : PV → R) (p1 : PV) : R :=
  f28_e ret0 p1
theorem f28_eq (k : Nat) (retF : PV → R) (p1 : PV) : exec (f28_E k) f28_code (endK (f28_E k) Try.f28 [] f28_un retF) ⟨[.val 24 p1, .undef, .undef, .undef, .undef, .undef], []⟩ = f28_N k (fun y0 => retF y0) p1 :=
  (f28_e_mem k retF p1)

noncomputable def G28 : Nat → PV → (PV → R) → R
  | 0, _, _ => none
  | k + 1, p1, ret0 => f28_N k  ret0 p1
theorem S28 : ∀ k, Snd Try.prog 28 f28_I f28_O (fun x ret => G28 k x (fun y0 => ret y0))
  | 0 => snd_none
  | k + 1 => snd_step (E := f28_E k ) rfl laidOut noNums orc0_ok (f := 28) (fn := Try.f28) (code := f28_code) Try.func28 (by kernel_rfl) (drawsOk_of laidOut orc0_ok mixed (by kernel_rfl)) f28_un f28_un_ok [] (fun _ => rfl)
      (fun x ret => f28_eq k  ret x)

/- catchpole/catchpolelaw14.right -/
noncomputable def f29_I : PV → List SV × Obs := fun x => ([.val 24 x], [])
noncomputable def f29_D : List SV → Obs → Option (PV)
  | [.val 24 p1], [] => some p1
  | _, _ => none
theorem f29_D_ok (args : List SV) (B : Obs) (x : PV) (h : f29_D args B = some x) : f29_I x = (args, B) := by
  unfold f29_D at h
  split at h
  · injection h with h; subst h; rfl
  · cases h
noncomputable def f29_O : PV → Out := (fun y => ([.val 24 y], []))
noncomputable def f29_un : Out → Option (PV)
  | ([.val 24 y0], []) => some y0
  | _ => none
theorem f29_un_ok (o : Out) (y : PV) (h : f29_un o = some y) : o = f29_O y := by
  unfold f29_un at h
  split at h
  · injection h with h; subst h; rfl
  · cases h
noncomputable def f29_msk : Nat → Option (List Nat) := fun key =>  none
noncomputable def f29_C : Oracle := orc0
noncomputable def f29_E (k : Nat) : Env := { P := Try.prog, nilOwn := fun d => false, fldOwn := fun d i => false, ownPar := ownPars, ownRet := false, mask := f29_msk, fuel := k, C := f29_C }
noncomputable def f29_code : Code := Try.f29.body.getD .skip
noncomputable def f29_e (ret0 : PV → R) (p1 : PV) : R :=
  ret0 (PV.agg [(PV.int 5), (PV.int 0), (PV.list [p1])])

theorem f29_e_mem (k : Nat) (retF : PV → R) (p1 : PV) : exec (f29_E k) f29_code (endK (f29_E k) Try.f29 [] f29_un retF) ⟨[.val 24 p1, .undef, .undef, .undef, .undef, .undef], []⟩ = f29_e (fun y0 => retF y0) p1 := by kernel_rfl

noncomputable def f29_N (k : Nat) (ret0 : PV → R) (p1 : PV) : R :=
  f29_e ret0 p1
theorem f29_eq (k : Nat) (retF : PV → R) (p1 : PV) : exec (f29_E k) f29_code (endK (f29_E k) Try.f29 [] f29_un retF) ⟨[.val 24 p1, .undef, .undef, .undef, .undef, .undef], []⟩ = f29_N k (fun y0 => retF y0) p1 :=
  (f29_e_mem k retF p1)

noncomputable def G29 : Nat → PV → (PV → R) → R
  | 0, _, _ => none
  | k + 1, p1, ret0 => f29_N k  ret0 p1
theorem S29 : ∀ k, Snd Try.prog 29 f29_I f29_O (fun x ret => G29 k x (fun y0 => ret y0))
  | 0 => snd_none
  | k + 1 => snd_step (E := f29_E k ) rfl laidOut noNums orc0_ok (f := 29) (fn := Try.f29) (code := f29_code) Try.func29 (by kernel_rfl) (drawsOk_of laidOut orc0_ok mixed (by kernel_rfl)) f29_un f29_un_ok [] (fun _ => rfl)
      (fun x ret => f29_eq k  ret x)

/- (*strings.Builder).copyCheck -/
noncomputable def f51_I : PV × (List PV) → List SV × Obs := fun x => ([.ptr 2000000 []], [(2000000, .box 55 (.agg 55 [.val 53 x.1, .own 47 2000001])), (2000001, .row 5 x.2)])
noncomputable def f51_D : List SV → Obs → Option (PV × (List PV))
  | [.ptr 2000000 []], [(2000000, .box 55 (.agg 55 [.val 53 p1, .own 47 2000001])), (2000001, .row 5 l2)] => some (p1, l2)
  | _, _ => none
theorem f51_D_ok (args : List SV) (B : Obs) (x : PV × (List PV)) (h : f51_D args B = some x) : f51_I x = (args, B) := by
  unfold f51_D at h
  split at h
  · injection h with h; subst h; rfl
  · cases h
noncomputable def f51_O : (List PV) → Out := (fun y => ([], [(2000000, .box 55 (.agg 55 [.ptr 2000000 [], .own 47 2000001])), (2000001, .row 5 y)]))
noncomputable def f51_un : Out → Option ((List PV))
  | ([], [(2000000, .box 55 (.agg 55 [.ptr 2000000 [], .own 47 2000001])), (2000001, .row 5 y0)]) => some y0
  | _ => none
theorem f51_un_ok (o : Out) (y : (List PV)) (h : f51_un o = some y) : o = f51_O y := by
  unfold f51_un at h
  split at h
  · injection h with h; subst h; rfl
  · cases h

noncomputable def G51 : Nat → PV → (List PV) → ((List PV) → R) → R
  | _, p, l, ret0 => bif PV.isNil p then ret0 l else none
theorem S51 : ∀ k, SndO Try.prog 51 f51_I f51_O (fun x ret => G51 k x.1 x.2 (fun y0 => ret y0)) := fun k => Bld.fresh

/- (*strings.Builder).WriteString -/
noncomputable def f49_I : (List Int) × PV × (List PV) → List SV × Obs := fun x => ([.ptr 2000000 [], .str x.1], [(2000000, .box 55 (.agg 55 [.val 53 x.2.1, .own 47 2000001])), (2000001, .row 5 x.2.2)])
noncomputable def f49_D : List SV → Obs → Option ((List Int) × PV × (List PV))
  | [.ptr 2000000 [], .str s1], [(2000000, .box 55 (.agg 55 [.val 53 p2, .own 47 2000001])), (2000001, .row 5 l3)] => some (s1, p2, l3)
  | _, _ => none
theorem f49_D_ok (args : List SV) (B : Obs) (x : (List Int) × PV × (List PV)) (h : f49_D args B = some x) : f49_I x = (args, B) := by
  unfold f49_D at h
  split at h
  · injection h with h; subst h; rfl
  · cases h
noncomputable def f49_O : Int × PV × (List PV) → Out := (fun y => ([.int .i64 y.1, .val 62 y.2.1], [(2000000, .box 55 (.agg 55 [.ptr 2000000 [], .own 47 2000001])), (2000001, .row 5 y.2.2)]))
noncomputable def f49_un : Out → Option (Int × PV × (List PV))
  | ([.int .i64 y0, .val 62 y1], [(2000000, .box 55 (.agg 55 [.ptr 2000000 [], .own 47 2000001])), (2000001, .row 5 y2)]) => some (y0, y1, y2)
  | _ => none
theorem f49_un_ok (o : Out) (y : Int × PV × (List PV)) (h : f49_un o = some y) : o = f49_O y := by
  unfold f49_un at h
  split at h
  · injection h with h; subst h; rfl
  · cases h
noncomputable def f49_msk : Nat → Option (List Nat) := fun key =>  none
noncomputable def f49_C (c51 : PV → (List PV) → ((List PV) → R) → R) : Oracle := orc 51 f51_D f51_O (fun x ret => c51 x.1 x.2 (fun y0 => ret y0)) <| orc0
noncomputable def f49_E (k : Nat) (c51 : PV → (List PV) → ((List PV) → R) → R) : Env := { P := Try.prog, nilOwn := fun d => false, fldOwn := fun d i => false, ownPar := ownPars, ownRet := false, mask := f49_msk, fuel := k, C := f49_C c51 }
noncomputable def f49_code : Code := Try.f49.body.getD .skip
noncomputable def f49_e (c51 : PV → (List PV) → ((List PV) → R) → R) (ret0 : Int → PV → (List PV) → R) (s1 : List Int) (p2 : PV) (l3 : List PV) : R :=
  c51 p2 l3 fun l4 =>
  bif (true && roomy (List.length l4 + List.length (List.map PV.int s1)) 1) then
    ret0 (List.length s1 : Int) PV.nil (l4 ++ (List.map PV.int s1))
  else none

theorem f49_e_mem (k : Nat) (c51 : PV → (List PV) → ((List PV) → R) → R) (retF : Int × PV × (List PV) → R) (s1 : List Int) (p2 : PV) (l3 : List PV) : exec (f49_E k c51) f49_code (endK (f49_E k c51) Try.f49 [2000000, 2000001] f49_un retF) ⟨[.ptr 2000000 [], .str s1, .undef, .undef, .undef, .undef, .undef, .undef, .undef, .undef, .undef, .undef, .undef, .undef, .undef, .undef, .undef, .undef, .undef], [(2000000, .box 55 (.agg 55 [.val 53 p2, .own 47 2000001])), (2000001, .row 5 l3)]⟩ = f49_e c51 (fun y0 y1 y2 => retF (y0, y1, y2)) s1 p2 l3 := by kernel_rfl

noncomputable def f49_N (k : Nat) (c51 : PV → (List PV) → ((List PV) → R) → R) (ret0 : Int → PV → (List PV) → R) (s1 : List Int) (p2 : PV) (l3 : List PV) : R :=
  f49_e c51 ret0 s1 p2 l3
theorem f49_eq (k : Nat) (c51 : PV → (List PV) → ((List PV) → R) → R) (retF : Int × PV × (List PV) → R) (s1 : List Int) (p2 : PV) (l3 : List PV) : exec (f49_E k c51) f49_code (endK (f49_E k c51) Try.f49 [2000000, 2000001] f49_un retF) ⟨[.ptr 2000000 [], .str s1, .undef, .undef, .undef, .undef, .undef, .undef, .undef, .undef, .undef, .undef, .undef, .undef, .undef, .undef, .undef, .undef, .undef], [(2000000, .box 55 (.agg 55 [.val 53 p2, .own 47 2000001])), (2000001, .row 5 l3)]⟩ = f49_N k c51 (fun y0 y1 y2 => retF (y0, y1, y2)) s1 p2 l3 :=
  (f49_e_mem k c51 retF s1 p2 l3)

noncomputable def G49 : Nat → (List Int) → PV → (List PV) → (Int → PV → (List PV) → R) → R
  | 0, _, _, _, _ => none
  | k + 1, s1, p2, l3, ret0 => f49_N k (G51 k) ret0 s1 p2 l3
theorem S49 : ∀ k, Snd Try.prog 49 f49_I f49_O (fun x ret => G49 k x.1 x.2.1 x.2.2 (fun y0 y1 y2 => ret (y0, y1, y2)))
  | 0 => snd_none
  | k + 1 => snd_step (E := f49_E k (G51 k)) rfl laidOut noNums (orc_ok (S51 k).o f51_D_ok orc0_ok) (f := 49) (fn := Try.f49) (code := f49_code) Try.func49 (by kernel_rfl) (drawsOk_of laidOut (orc_ok (S51 k).o f51_D_ok orc0_ok) mixed (by kernel_rfl)) f49_un f49_un_ok [2000000, 2000001] (fun _ => rfl)
      (fun x ret => f49_eq k (G51 k) ret x.1 x.2.1 x.2.2)

/- catchpole/value.Kids -/
noncomputable def f37_I : PV → List SV × Obs := fun x => ([.val 24 x], [])
noncomputable def f37_D : List SV → Obs → Option (PV)
  | [.val 24 p1], [] => some p1
  | _, _ => none
theorem f37_D_ok (args : List SV) (B : Obs) (x : PV) (h : f37_D args B = some x) : f37_I x = (args, B) := by
  unfold f37_D at h
  split at h
  · injection h with h; subst h; rfl
  · cases h
noncomputable def f37_O : PV → Out := (fun y => ([.val 22 y], []))
noncomputable def f37_un : Out → Option (PV)
  | ([.val 22 y0], []) => some y0
  | _ => none
theorem f37_un_ok (o : Out) (y : PV) (h : f37_un o = some y) : o = f37_O y := by
  unfold f37_un at h
  split at h
  · injection h with h; subst h; rfl
  · cases h
noncomputable def f37_msk : Nat → Option (List Nat) := fun key =>  none
noncomputable def f37_C : Oracle := orc0
noncomputable def f37_E (k : Nat) : Env := { P := Try.prog, nilOwn := fun d => false, fldOwn := fun d i => false, ownPar := ownPars, ownRet := false, mask := f37_msk, fuel := k, C := f37_C }
noncomputable def f37_code : Code := Try.f37.body.getD .skip
noncomputable def f37_e (ret0 : PV → R) (p1 : PV) : R :=
  bif (decide ((PV.num (PV.fld p1 0)) = (3 : Int))) then
    let n2 : Int := (if (List.length (PV.els (PV.fld p1 2)) : Int) < (2 : Int) then (List.length (PV.els (PV.fld p1 2)) : Int) else 2)
    bif (decide ((0 : Int) ≤ (0 : Int)) && decide ((0 : Int) ≤ n2) && decide (n2 ≤ (List.length (PV.els (PV.fld p1 2)) : Int))) then
      ret0 (PV.list (List.drop ((0 : Int)).toNat (List.take (n2).toNat (PV.els (PV.fld p1 2)))))
    else none
  else bif (decide ((PV.num (PV.fld p1 0)) = (4 : Int))) then
    let n3 : Int := (if (List.length (PV.els (PV.fld p1 2)) : Int) < (1 : Int) then (List.length (PV.els (PV.fld p1 2)) : Int) else 1)
    bif (decide ((0 : Int) ≤ (0 : Int)) && decide ((0 : Int) ≤ n3) && decide (n3 ≤ (List.length (PV.els (PV.fld p1 2)) : Int))) then
      ret0 (PV.list (List.drop ((0 : Int)).toNat (List.take (n3).toNat (PV.els (PV.fld p1 2)))))
    else none
  else bif (decide ((PV.num (PV.fld p1 0)) = (5 : Int))) then
    let n4 : Int := (if (List.length (PV.els (PV.fld p1 2)) : Int) < (1 : Int) then (List.length (PV.els (PV.fld p1 2)) : Int) else 1)
    bif (decide ((0 : Int) ≤ (0 : Int)) && decide ((0 : Int) ≤ n4) && decide (n4 ≤ (List.length (PV.els (PV.fld p1 2)) : Int))) then
      ret0 (PV.list (List.drop ((0 : Int)).toNat (List.take (n4).toNat (PV.els (PV.fld p1 2)))))
    else none
  else bif (decide ((PV.num (PV.fld p1 0)) = (7 : Int))) then
    let n5 : Int := (if (List.length (PV.els (PV.fld p1 2)) : Int) < (1 : Int) then (List.length (PV.els (PV.fld p1 2)) : Int) else 1)
    bif (decide ((0 : Int) ≤ (0 : Int)) && decide ((0 : Int) ≤ n5) && decide (n5 ≤ (List.length (PV.els (PV.fld p1 2)) : Int))) then
      ret0 (PV.list (List.drop ((0 : Int)).toNat (List.take (n5).toNat (PV.els (PV.fld p1 2)))))
    else none
  else bif (decide ((PV.num (PV.fld p1 0)) = (6 : Int))) then
    let n6 : Int := (if (List.length (PV.els (PV.fld p1 2)) : Int) < (List.length (PV.els (PV.fld p1 2)) : Int) then (List.length (PV.els (PV.fld p1 2)) : Int) else (List.length (PV.els (PV.fld p1 2)) : Int))
    bif (decide ((0 : Int) ≤ (0 : Int)) && decide ((0 : Int) ≤ n6) && decide (n6 ≤ (List.length (PV.els (PV.fld p1 2)) : Int))) then
      ret0 (PV.list (List.drop ((0 : Int)).toNat (List.take (n6).toNat (PV.els (PV.fld p1 2)))))
    else none
  else let n7 : Int := (if (List.length (PV.els (PV.fld p1 2)) : Int) < (0 : Int) then (List.length (PV.els (PV.fld p1 2)) : Int) else 0)
  bif (decide ((0 : Int) ≤ (0 : Int)) && decide ((0 : Int) ≤ n7) && decide (n7 ≤ (List.length (PV.els (PV.fld p1 2)) : Int))) then
    ret0 (PV.list (List.drop ((0 : Int)).toNat (List.take (n7).toNat (PV.els (PV.fld p1 2)))))
  else none

theorem f37_e_mem (k : Nat) (retF : PV → R) (p1 : PV) : exec (f37_E k) f37_code (endK (f37_E k) Try.f37 [] f37_un retF) ⟨[.val 24 p1, .undef, .undef, .undef, .undef, .undef, .undef, .undef, .undef, .undef, .undef, .undef, .undef, .undef, .undef, .undef, .undef, .undef, .undef, .undef, .undef, .undef, .undef, .undef, .undef], []⟩ = f37_e (fun y0 => retF y0) p1 := by kernel_rfl

noncomputable def f37_N (k : Nat) (ret0 : PV → R) (p1 : PV) : R :=
  f37_e ret0 p1
theorem f37_eq (k : Nat) (retF : PV → R) (p1 : PV) : exec (f37_E k) f37_code (endK (f37_E k) Try.f37 [] f37_un retF) ⟨[.val 24 p1, .undef, .undef, .undef, .undef, .undef, .undef, .undef, .undef, .undef, .undef, .undef, .undef, .undef, .undef, .undef, .undef, .undef, .undef, .undef, .undef, .undef, .undef, .undef, .undef], []⟩ = f37_N k (fun y0 => retF y0) p1 :=
  (f37_e_mem k retF p1)

noncomputable def G37 : Nat → PV → (PV → R) → R
  | 0, _, _ => none
  | k + 1, p1, ret0 => f37_N k  ret0 p1
theorem S37 : ∀ k, Snd Try.prog 37 f37_I f37_O (fun x ret => G37 k x (fun y0 => ret y0))
  | 0 => snd_none
  | k + 1 => snd_step (E := f37_E k ) rfl laidOut noNums orc0_ok (f := 37) (fn := Try.f37) (code := f37_code) Try.func37 (by kernel_rfl) (drawsOk_of laidOut orc0_ok mixed (by kernel_rfl)) f37_un f37_un_ok [] (fun _ => rfl)
      (fun x ret => f37_eq k  ret x)

/- (*strings.Builder).copyCheck -/
noncomputable def f51v1_I : (List PV) → List SV × Obs := fun x => ([.ptr 2000000 []], [(2000000, .box 55 (.agg 55 [.ptr 2000000 [], .own 47 2000001])), (2000001, .row 5 x)])
noncomputable def f51v1_D : List SV → Obs → Option ((List PV))
  | [.ptr 2000000 []], [(2000000, .box 55 (.agg 55 [.ptr 2000000 [], .own 47 2000001])), (2000001, .row 5 l1)] => some l1
  | _, _ => none
theorem f51v1_D_ok (args : List SV) (B : Obs) (x : (List PV)) (h : f51v1_D args B = some x) : f51v1_I x = (args, B) := by
  unfold f51v1_D at h
  split at h
  · injection h with h; subst h; rfl
  · cases h
noncomputable def f51v1_O : (List PV) → Out := (fun y => ([], [(2000000, .box 55 (.agg 55 [.ptr 2000000 [], .own 47 2000001])), (2000001, .row 5 y)]))
noncomputable def f51v1_un : Out → Option ((List PV))
  | ([], [(2000000, .box 55 (.agg 55 [.ptr 2000000 [], .own 47 2000001])), (2000001, .row 5 y0)]) => some y0
  | _ => none
theorem f51v1_un_ok (o : Out) (y : (List PV)) (h : f51v1_un o = some y) : o = f51v1_O y := by
  unfold f51v1_un at h
  split at h
  · injection h with h; subst h; rfl
  · cases h

noncomputable def G51v1 : Nat → (List PV) → ((List PV) → R) → R
  | _, l, ret0 => ret0 l
theorem S51v1 : ∀ k, SndO Try.prog 51 f51v1_I f51v1_O (fun x ret => G51v1 k x (fun y0 => ret y0)) := fun k => Bld.used

/- (*strings.Builder).WriteString -/
noncomputable def f49v1_I : (List Int) × (List PV) → List SV × Obs := fun x => ([.ptr 2000000 [], .str x.1], [(2000000, .box 55 (.agg 55 [.ptr 2000000 [], .own 47 2000001])), (2000001, .row 5 x.2)])
noncomputable def f49v1_D : List SV → Obs → Option ((List Int) × (List PV))
  | [.ptr 2000000 [], .str s1], [(2000000, .box 55 (.agg 55 [.ptr 2000000 [], .own 47 2000001])), (2000001, .row 5 l2)] => some (s1, l2)
  | _, _ => none
theorem f49v1_D_ok (args : List SV) (B : Obs) (x : (List Int) × (List PV)) (h : f49v1_D args B = some x) : f49v1_I x = (args, B) := by
  unfold f49v1_D at h
  split at h
  · injection h with h; subst h; rfl
  · cases h
noncomputable def f49v1_O : Int × PV × (List PV) → Out := (fun y => ([.int .i64 y.1, .val 62 y.2.1], [(2000000, .box 55 (.agg 55 [.ptr 2000000 [], .own 47 2000001])), (2000001, .row 5 y.2.2)]))
noncomputable def f49v1_un : Out → Option (Int × PV × (List PV))
  | ([.int .i64 y0, .val 62 y1], [(2000000, .box 55 (.agg 55 [.ptr 2000000 [], .own 47 2000001])), (2000001, .row 5 y2)]) => some (y0, y1, y2)
  | _ => none
theorem f49v1_un_ok (o : Out) (y : Int × PV × (List PV)) (h : f49v1_un o = some y) : o = f49v1_O y := by
  unfold f49v1_un at h
  split at h
  · injection h with h; subst h; rfl
  · cases h
noncomputable def f49v1_msk : Nat → Option (List Nat) := fun key =>  none
noncomputable def f49v1_C (c51v1 : (List PV) → ((List PV) → R) → R) : Oracle := orc 51 f51v1_D f51v1_O (fun x ret => c51v1 x (fun y0 => ret y0)) <| orc0
noncomputable def f49v1_E (k : Nat) (c51v1 : (List PV) → ((List PV) → R) → R) : Env := { P := Try.prog, nilOwn := fun d => false, fldOwn := fun d i => false, ownPar := ownPars, ownRet := false, mask := f49v1_msk, fuel := k, C := f49v1_C c51v1 }
noncomputable def f49v1_code : Code := Try.f49.body.getD .skip
noncomputable def f49v1_e (c51v1 : (List PV) → ((List PV) → R) → R) (ret0 : Int → PV → (List PV) → R) (s1 : List Int) (l2 : List PV) : R :=
  c51v1 l2 fun l3 =>
  bif (true && roomy (List.length l3 + List.length (List.map PV.int s1)) 1) then
    ret0 (List.length s1 : Int) PV.nil (l3 ++ (List.map PV.int s1))
  else none

theorem f49v1_e_mem (k : Nat) (c51v1 : (List PV) → ((List PV) → R) → R) (retF : Int × PV × (List PV) → R) (s1 : List Int) (l2 : List PV) : exec (f49v1_E k c51v1) f49v1_code (endK (f49v1_E k c51v1) Try.f49 [2000000, 2000001] f49v1_un retF) ⟨[.ptr 2000000 [], .str s1, .undef, .undef, .undef, .undef, .undef, .undef, .undef, .undef, .undef, .undef, .undef, .undef, .undef, .undef, .undef, .undef, .undef], [(2000000, .box 55 (.agg 55 [.ptr 2000000 [], .own 47 2000001])), (2000001, .row 5 l2)]⟩ = f49v1_e c51v1 (fun y0 y1 y2 => retF (y0, y1, y2)) s1 l2 := by kernel_rfl

noncomputable def f49v1_N (k : Nat) (c51v1 : (List PV) → ((List PV) → R) → R) (ret0 : Int → PV → (List PV) → R) (s1 : List Int) (l2 : List PV) : R :=
  f49v1_e c51v1 ret0 s1 l2
theorem f49v1_eq (k : Nat) (c51v1 : (List PV) → ((List PV) → R) → R) (retF : Int × PV × (List PV) → R) (s1 : List Int) (l2 : List PV) : exec (f49v1_E k c51v1) f49v1_code (endK (f49v1_E k c51v1) Try.f49 [2000000, 2000001] f49v1_un retF) ⟨[.ptr 2000000 [], .str s1, .undef, .undef, .undef, .undef, .undef, .undef, .undef, .undef, .undef, .undef, .undef, .undef, .undef, .undef, .undef, .undef, .undef], [(2000000, .box 55 (.agg 55 [.ptr 2000000 [], .own 47 2000001])), (2000001, .row 5 l2)]⟩ = f49v1_N k c51v1 (fun y0 y1 y2 => retF (y0, y1, y2)) s1 l2 :=
  (f49v1_e_mem k c51v1 retF s1 l2)

noncomputable def G49v1 : Nat → (List Int) → (List PV) → (Int → PV → (List PV) → R) → R
  | 0, _, _, _ => none
  | k + 1, s1, l2, ret0 => f49v1_N k (G51v1 k) ret0 s1 l2
theorem S49v1 : ∀ k, Snd Try.prog 49 f49v1_I f49v1_O (fun x ret => G49v1 k x.1 x.2 (fun y0 y1 y2 => ret (y0, y1, y2)))
  | 0 => snd_none
  | k + 1 => snd_step (E := f49v1_E k (G51v1 k)) rfl laidOut noNums (orc_ok (S51v1 k).o f51v1_D_ok orc0_ok) (f := 49) (fn := Try.f49) (code := f49v1_code) Try.func49 (by kernel_rfl) (drawsOk_of laidOut (orc_ok (S51v1 k).o f51v1_D_ok orc0_ok) mixed (by kernel_rfl)) f49v1_un f49v1_un_ok [2000000, 2000001] (fun _ => rfl)
      (fun x ret => f49v1_eq k (G51v1 k) ret x.1 x.2)

/- catchpole/bits.put -/
noncomputable def f43v1_I : PV × (List PV) → List SV × Obs := fun x => ([.ptr 2000000 [], .val 24 x.1], [(2000000, .box 55 (.agg 55 [.ptr 2000000 [], .own 47 2000001])), (2000001, .row 5 x.2)])
noncomputable def f43v1_D : List SV → Obs → Option (PV × (List PV))
  | [.ptr 2000000 [], .val 24 p1], [(2000000, .box 55 (.agg 55 [.ptr 2000000 [], .own 47 2000001])), (2000001, .row 5 l2)] => some (p1, l2)
  | _, _ => none
theorem f43v1_D_ok (args : List SV) (B : Obs) (x : PV × (List PV)) (h : f43v1_D args B = some x) : f43v1_I x = (args, B) := by
  unfold f43v1_D at h
  split at h
  · injection h with h; subst h; rfl
  · cases h
noncomputable def f43v1_O : (List PV) → Out := (fun y => ([], [(2000000, .box 55 (.agg 55 [.ptr 2000000 [], .own 47 2000001])), (2000001, .row 5 y)]))
noncomputable def f43v1_un : Out → Option ((List PV))
  | ([], [(2000000, .box 55 (.agg 55 [.ptr 2000000 [], .own 47 2000001])), (2000001, .row 5 y0)]) => some y0
  | _ => none
theorem f43v1_un_ok (o : Out) (y : (List PV)) (h : f43v1_un o = some y) : o = f43v1_O y := by
  unfold f43v1_un at h
  split at h
  · injection h with h; subst h; rfl
  · cases h
noncomputable def f43v1_msk : Nat → Option (List Nat) := fun key => bif key == 21 then some [0, 3, 17, 18, 19] else none
noncomputable def f43v1_C (c37 : PV → (PV → R) → R) (c43v1 : PV → (List PV) → ((List PV) → R) → R) (c49v1 : (List Int) → (List PV) → (Int → PV → (List PV) → R) → R) : Oracle := orc 37 f37_D f37_O (fun x ret => c37 x (fun y0 => ret y0)) <| orc 43 f43v1_D f43v1_O (fun x ret => c43v1 x.1 x.2 (fun y0 => ret y0)) <| orc 49 f49v1_D f49v1_O (fun x ret => c49v1 x.1 x.2 (fun y0 y1 y2 => ret (y0, y1, y2))) <| orc0
noncomputable def f43v1_E (k : Nat) (c37 : PV → (PV → R) → R) (c43v1 : PV → (List PV) → ((List PV) → R) → R) (c49v1 : (List Int) → (List PV) → (Int → PV → (List PV) → R) → R) : Env := { P := Try.prog, nilOwn := fun d => false, fldOwn := fun d i => false, ownPar := ownPars, ownRet := false, mask := f43v1_msk, fuel := k, C := f43v1_C c37 c43v1 c49v1 }
noncomputable def f43v1_code : Code := Try.f43.body.getD .skip
noncomputable def f43v1_cw1 : Code := subC f43v1_code [1, 1, 0, 1, 0, 0]
noncomputable def f43v1_hw1_0 (p1 : PV) (p6 : PV) (n15 : Int) (l16 : List PV) : St := ⟨[.ptr 2000000 [], .dead, .dead, .ptr 3 [], .dead, .dead, .dead, .dead, .dead, .dead, .dead, .dead, .dead, .dead, .dead, .dead, .dead, .val 22 p6, .int .i64 (List.length (PV.els p6) : Int), .int .i64 n15, .dead, .dead, .dead, .dead, .dead, .dead, .dead, .dead, .dead, .dead, .dead, .dead, .dead, .dead, .dead, .dead, .dead], [(3, .box 24 (.val 24 p1)), (2000000, .box 55 (.agg 55 [.ptr 2000000 [], .own 47 2000001])), (2000001, .row 5 l16)]⟩
noncomputable def f43v1_w1A (k : Nat) (c37 : PV → (PV → R) → R) (c43v1 : PV → (List PV) → ((List PV) → R) → R) (c49v1 : (List Int) → (List PV) → (Int → PV → (List PV) → R) → R) (retF : (List PV) → R) (p1 : PV) (p6 : PV) (n15 : Int) (l16 : List PV) : R := loopM (f43v1_E k c37 c43v1 c49v1) f43v1_cw1 (kont (f43v1_E k c37 c43v1 c49v1) f43v1_code [1, 1, 0, 1, 0] (endK (f43v1_E k c37 c43v1 c49v1) Try.f43 [2000000, 2000001] f43v1_un retF)) k (f43v1_hw1_0 p1 p6 n15 l16)
noncomputable def f43v1_w1b0 (c37 : PV → (PV → R) → R) (c43v1 : PV → (List PV) → ((List PV) → R) → R) (c49v1 : (List Int) → (List PV) → (Int → PV → (List PV) → R) → R) (ret0 : (List PV) → R) (next_w1_0 : Int → (List PV) → R) (p1 : PV) (p6 : PV) (n15 : Int) (l16 : List PV) : R :=
  bif (decide (n15 < (List.length (PV.els p6) : Int))) then
    bif (true && decide ((0 : Int) ≤ n15) && decide (n15 < (List.length (PV.els p6) : Int))) then
      bif (decide ((PV.num (PV.fld p1 0)) = (6 : Int))) then
        c49v1 [48] l16 fun n17 p18 l19 =>
        c43v1 (List.getD (PV.els p6) (n15).toNat PV.nil) l19 fun l20 =>
        next_w1_0 (IntKind.wrap .i64 (n15 + (1 : Int))) l20
      else c43v1 (List.getD (PV.els p6) (n15).toNat PV.nil) l16 fun l21 =>
      next_w1_0 (IntKind.wrap .i64 (n15 + (1 : Int))) l21
    else none
  else bif (decide ((PV.num (PV.fld p1 0)) = (6 : Int))) then
    c49v1 [49] l16 fun n22 p23 l24 =>
    ret0 l24
  else ret0 l16

theorem f43v1_w1b0_mem (k : Nat) (c37 : PV → (PV → R) → R) (c43v1 : PV → (List PV) → ((List PV) → R) → R) (c49v1 : (List Int) → (List PV) → (Int → PV → (List PV) → R) → R) (retF : (List PV) → R) (NX_w1 : St → R) (p1 : PV) (p6 : PV) (n15 : Int) (l16 : List PV) : exec (f43v1_E k c37 c43v1 c49v1) f43v1_cw1 (purgeK (f43v1_E k c37 c43v1 c49v1) f43v1_cw1 (loopK NX_w1 (kont (f43v1_E k c37 c43v1 c49v1) f43v1_code [1, 1, 0, 1, 0] (endK (f43v1_E k c37 c43v1 c49v1) Try.f43 [2000000, 2000001] f43v1_un retF)))) (f43v1_hw1_0 p1 p6 n15 l16) = f43v1_w1b0 c37 c43v1 c49v1 (fun y0 => retF y0) (fun n15 l16 => NX_w1 (f43v1_hw1_0 p1 p6 n15 l16)) p1 p6 n15 l16 := by kernel_rfl

noncomputable def f43v1_w1b0N (k : Nat) (c37 : PV → (PV → R) → R) (c43v1 : PV → (List PV) → ((List PV) → R) → R) (c49v1 : (List Int) → (List PV) → (Int → PV → (List PV) → R) → R) (ret0 : (List PV) → R) (next_w1_0 : Int → (List PV) → R) (p1 : PV) (p6 : PV) (n15 : Int) (l16 : List PV) : R :=
  f43v1_w1b0 c37 c43v1 c49v1 ret0 next_w1_0 p1 p6 n15 l16
theorem f43v1_w1b0_eq (k : Nat) (c37 : PV → (PV → R) → R) (c43v1 : PV → (List PV) → ((List PV) → R) → R) (c49v1 : (List Int) → (List PV) → (Int → PV → (List PV) → R) → R) (retF : (List PV) → R) (NX_w1 : St → R) (p1 : PV) (p6 : PV) (n15 : Int) (l16 : List PV) : exec (f43v1_E k c37 c43v1 c49v1) f43v1_cw1 (purgeK (f43v1_E k c37 c43v1 c49v1) f43v1_cw1 (loopK NX_w1 (kont (f43v1_E k c37 c43v1 c49v1) f43v1_code [1, 1, 0, 1, 0] (endK (f43v1_E k c37 c43v1 c49v1) Try.f43 [2000000, 2000001] f43v1_un retF)))) (f43v1_hw1_0 p1 p6 n15 l16) = f43v1_w1b0N k c37 c43v1 c49v1 (fun y0 => retF y0) (fun n15 l16 => NX_w1 (f43v1_hw1_0 p1 p6 n15 l16)) p1 p6 n15 l16 :=
  (f43v1_w1b0_mem k c37 c43v1 c49v1 retF NX_w1 p1 p6 n15 l16)

noncomputable def f43v1_w1B (k : Nat) (c37 : PV → (PV → R) → R) (c43v1 : PV → (List PV) → ((List PV) → R) → R) (c49v1 : (List Int) → (List PV) → (Int → PV → (List PV) → R) → R) (ret0 : (List PV) → R) (p1 : PV) (p6 : PV) (nx : Int × (List PV) → R) : Int × (List PV) → R := (fun s => f43v1_w1b0N k c37 c43v1 c49v1 ret0 (fun n15 l16 => nx (n15, l16)) p1 p6 s.1 s.2)
noncomputable def f43v1_w1N (k : Nat) (c37 : PV → (PV → R) → R) (c43v1 : PV → (List PV) → ((List PV) → R) → R) (c49v1 : (List Int) → (List PV) → (Int → PV → (List PV) → R) → R) (ret0 : (List PV) → R) (p1 : PV) (p6 : PV) (n15 : Int) (l16 : List PV) : R := loopR (f43v1_w1B k c37 c43v1 c49v1 ret0 p1 p6) k (n15, l16)
theorem f43v1_w1_eq (k : Nat) (c37 : PV → (PV → R) → R) (c43v1 : PV → (List PV) → ((List PV) → R) → R) (c49v1 : (List Int) → (List PV) → (Int → PV → (List PV) → R) → R) (retF : (List PV) → R) (p1 : PV) (p6 : PV) (n15 : Int) (l16 : List PV) : f43v1_w1A k c37 c43v1 c49v1 retF p1 p6 n15 l16 = f43v1_w1N k c37 c43v1 c49v1 (fun y0 => retF y0) p1 p6 n15 l16 :=
  Eq.mp (by kernel_rfl) (loop_sim (E := (f43v1_E k c37 c43v1 c49v1)) (c := f43v1_cw1) (K := (kont (f43v1_E k c37 c43v1 c49v1) f43v1_code [1, 1, 0, 1, 0] (endK (f43v1_E k c37 c43v1 c49v1) Try.f43 [2000000, 2000001] f43v1_un retF))) (S := Int × (List PV)) (fun s => f43v1_hw1_0 p1 p6 s.1 s.2) (f43v1_w1B k c37 c43v1 c49v1 (fun y0 => retF y0) p1 p6) (fun NX s => by
    exact Eq.mp (by kernel_rfl) (f43v1_w1b0_eq k c37 c43v1 c49v1 retF NX p1 p6 s.1 s.2)) k (n15, l16))

noncomputable def f43v1_cw2 : Code := subC f43v1_code [1, 1, 0, 1, 0, 0]
noncomputable def f43v1_hw2_0 (p1 : PV) (p28 : PV) (n37 : Int) (l38 : List PV) : St := ⟨[.ptr 2000000 [], .dead, .dead, .ptr 3 [], .dead, .dead, .dead, .dead, .dead, .dead, .dead, .dead, .dead, .dead, .dead, .dead, .dead, .val 22 p28, .int .i64 (List.length (PV.els p28) : Int), .int .i64 n37, .dead, .dead, .dead, .dead, .dead, .dead, .dead, .dead, .dead, .dead, .dead, .dead, .dead, .dead, .dead, .dead, .dead], [(3, .box 24 (.val 24 p1)), (2000000, .box 55 (.agg 55 [.ptr 2000000 [], .own 47 2000001])), (2000001, .row 5 l38)]⟩
noncomputable def f43v1_w2A (k : Nat) (c37 : PV → (PV → R) → R) (c43v1 : PV → (List PV) → ((List PV) → R) → R) (c49v1 : (List Int) → (List PV) → (Int → PV → (List PV) → R) → R) (retF : (List PV) → R) (p1 : PV) (p28 : PV) (n37 : Int) (l38 : List PV) : R := loopM (f43v1_E k c37 c43v1 c49v1) f43v1_cw2 (kont (f43v1_E k c37 c43v1 c49v1) f43v1_code [1, 1, 0, 1, 0] (endK (f43v1_E k c37 c43v1 c49v1) Try.f43 [2000000, 2000001] f43v1_un retF)) k (f43v1_hw2_0 p1 p28 n37 l38)
noncomputable def f43v1_w2b0 (c37 : PV → (PV → R) → R) (c43v1 : PV → (List PV) → ((List PV) → R) → R) (c49v1 : (List Int) → (List PV) → (Int → PV → (List PV) → R) → R) (ret0 : (List PV) → R) (next_w2_0 : Int → (List PV) → R) (p1 : PV) (p28 : PV) (n37 : Int) (l38 : List PV) : R :=
  bif (decide (n37 < (List.length (PV.els p28) : Int))) then
    bif (true && decide ((0 : Int) ≤ n37) && decide (n37 < (List.length (PV.els p28) : Int))) then
      bif (decide ((PV.num (PV.fld p1 0)) = (6 : Int))) then
        c49v1 [48] l38 fun n39 p40 l41 =>
        c43v1 (List.getD (PV.els p28) (n37).toNat PV.nil) l41 fun l42 =>
        next_w2_0 (IntKind.wrap .i64 (n37 + (1 : Int))) l42
      else c43v1 (List.getD (PV.els p28) (n37).toNat PV.nil) l38 fun l43 =>
      next_w2_0 (IntKind.wrap .i64 (n37 + (1 : Int))) l43
    else none
  else bif (decide ((PV.num (PV.fld p1 0)) = (6 : Int))) then
    c49v1 [49] l38 fun n44 p45 l46 =>
    ret0 l46
  else ret0 l38

theorem f43v1_w2b0_mem (k : Nat) (c37 : PV → (PV → R) → R) (c43v1 : PV → (List PV) → ((List PV) → R) → R) (c49v1 : (List Int) → (List PV) → (Int → PV → (List PV) → R) → R) (retF : (List PV) → R) (NX_w2 : St → R) (p1 : PV) (p28 : PV) (n37 : Int) (l38 : List PV) : exec (f43v1_E k c37 c43v1 c49v1) f43v1_cw2 (purgeK (f43v1_E k c37 c43v1 c49v1) f43v1_cw2 (loopK NX_w2 (kont (f43v1_E k c37 c43v1 c49v1) f43v1_code [1, 1, 0, 1, 0] (endK (f43v1_E k c37 c43v1 c49v1) Try.f43 [2000000, 2000001] f43v1_un retF)))) (f43v1_hw2_0 p1 p28 n37 l38) = f43v1_w2b0 c37 c43v1 c49v1 (fun y0 => retF y0) (fun n37 l38 => NX_w2 (f43v1_hw2_0 p1 p28 n37 l38)) p1 p28 n37 l38 := by kernel_rfl

noncomputable def f43v1_w2b0N (k : Nat) (c37 : PV → (PV → R) → R) (c43v1 : PV → (List PV) → ((List PV) → R) → R) (c49v1 : (List Int) → (List PV) → (Int → PV → (List PV) → R) → R) (ret0 : (List PV) → R) (next_w2_0 : Int → (List PV) → R) (p1 : PV) (p28 : PV) (n37 : Int) (l38 : List PV) : R :=
  f43v1_w2b0 c37 c43v1 c49v1 ret0 next_w2_0 p1 p28 n37 l38
theorem f43v1_w2b0_eq (k : Nat) (c37 : PV → (PV → R) → R) (c43v1 : PV → (List PV) → ((List PV) → R) → R) (c49v1 : (List Int) → (List PV) → (Int → PV → (List PV) → R) → R) (retF : (List PV) → R) (NX_w2 : St → R) (p1 : PV) (p28 : PV) (n37 : Int) (l38 : List PV) : exec (f43v1_E k c37 c43v1 c49v1) f43v1_cw2 (purgeK (f43v1_E k c37 c43v1 c49v1) f43v1_cw2 (loopK NX_w2 (kont (f43v1_E k c37 c43v1 c49v1) f43v1_code [1, 1, 0, 1, 0] (endK (f43v1_E k c37 c43v1 c49v1) Try.f43 [2000000, 2000001] f43v1_un retF)))) (f43v1_hw2_0 p1 p28 n37 l38) = f43v1_w2b0N k c37 c43v1 c49v1 (fun y0 => retF y0) (fun n37 l38 => NX_w2 (f43v1_hw2_0 p1 p28 n37 l38)) p1 p28 n37 l38 :=
  (f43v1_w2b0_mem k c37 c43v1 c49v1 retF NX_w2 p1 p28 n37 l38)

noncomputable def f43v1_w2B (k : Nat) (c37 : PV → (PV → R) → R) (c43v1 : PV → (List PV) → ((List PV) → R) → R) (c49v1 : (List Int) → (List PV) → (Int → PV → (List PV) → R) → R) (ret0 : (List PV) → R) (p1 : PV) (p28 : PV) (nx : Int × (List PV) → R) : Int × (List PV) → R := (fun s => f43v1_w2b0N k c37 c43v1 c49v1 ret0 (fun n37 l38 => nx (n37, l38)) p1 p28 s.1 s.2)
noncomputable def f43v1_w2N (k : Nat) (c37 : PV → (PV → R) → R) (c43v1 : PV → (List PV) → ((List PV) → R) → R) (c49v1 : (List Int) → (List PV) → (Int → PV → (List PV) → R) → R) (ret0 : (List PV) → R) (p1 : PV) (p28 : PV) (n37 : Int) (l38 : List PV) : R := loopR (f43v1_w2B k c37 c43v1 c49v1 ret0 p1 p28) k (n37, l38)
theorem f43v1_w2_eq (k : Nat) (c37 : PV → (PV → R) → R) (c43v1 : PV → (List PV) → ((List PV) → R) → R) (c49v1 : (List Int) → (List PV) → (Int → PV → (List PV) → R) → R) (retF : (List PV) → R) (p1 : PV) (p28 : PV) (n37 : Int) (l38 : List PV) : f43v1_w2A k c37 c43v1 c49v1 retF p1 p28 n37 l38 = f43v1_w2N k c37 c43v1 c49v1 (fun y0 => retF y0) p1 p28 n37 l38 :=
  Eq.mp (by kernel_rfl) (loop_sim (E := (f43v1_E k c37 c43v1 c49v1)) (c := f43v1_cw2) (K := (kont (f43v1_E k c37 c43v1 c49v1) f43v1_code [1, 1, 0, 1, 0] (endK (f43v1_E k c37 c43v1 c49v1) Try.f43 [2000000, 2000001] f43v1_un retF))) (S := Int × (List PV)) (fun s => f43v1_hw2_0 p1 p28 s.1 s.2) (f43v1_w2B k c37 c43v1 c49v1 (fun y0 => retF y0) p1 p28) (fun NX s => by
    exact Eq.mp (by kernel_rfl) (f43v1_w2b0_eq k c37 c43v1 c49v1 retF NX p1 p28 s.1 s.2)) k (n37, l38))

noncomputable def f43v1_cw3 : Code := subC f43v1_code [1, 1, 0, 1, 0, 0]
noncomputable def f43v1_hw3_0 (p1 : PV) (p47 : PV) (n56 : Int) (l57 : List PV) : St := ⟨[.ptr 2000000 [], .dead, .dead, .ptr 3 [], .dead, .dead, .dead, .dead, .dead, .dead, .dead, .dead, .dead, .dead, .dead, .dead, .dead, .val 22 p47, .int .i64 (List.length (PV.els p47) : Int), .int .i64 n56, .dead, .dead, .dead, .dead, .dead, .dead, .dead, .dead, .dead, .dead, .dead, .dead, .dead, .dead, .dead, .dead, .dead], [(3, .box 24 (.val 24 p1)), (2000000, .box 55 (.agg 55 [.ptr 2000000 [], .own 47 2000001])), (2000001, .row 5 l57)]⟩
noncomputable def f43v1_w3A (k : Nat) (c37 : PV → (PV → R) → R) (c43v1 : PV → (List PV) → ((List PV) → R) → R) (c49v1 : (List Int) → (List PV) → (Int → PV → (List PV) → R) → R) (retF : (List PV) → R) (p1 : PV) (p47 : PV) (n56 : Int) (l57 : List PV) : R := loopM (f43v1_E k c37 c43v1 c49v1) f43v1_cw3 (kont (f43v1_E k c37 c43v1 c49v1) f43v1_code [1, 1, 0, 1, 0] (endK (f43v1_E k c37 c43v1 c49v1) Try.f43 [2000000, 2000001] f43v1_un retF)) k (f43v1_hw3_0 p1 p47 n56 l57)
noncomputable def f43v1_w3b0 (c37 : PV → (PV → R) → R) (c43v1 : PV → (List PV) → ((List PV) → R) → R) (c49v1 : (List Int) → (List PV) → (Int → PV → (List PV) → R) → R) (ret0 : (List PV) → R) (next_w3_0 : Int → (List PV) → R) (p1 : PV) (p47 : PV) (n56 : Int) (l57 : List PV) : R :=
  bif (decide (n56 < (List.length (PV.els p47) : Int))) then
    bif (true && decide ((0 : Int) ≤ n56) && decide (n56 < (List.length (PV.els p47) : Int))) then
      bif (decide ((PV.num (PV.fld p1 0)) = (6 : Int))) then
        c49v1 [48] l57 fun n58 p59 l60 =>
        c43v1 (List.getD (PV.els p47) (n56).toNat PV.nil) l60 fun l61 =>
        next_w3_0 (IntKind.wrap .i64 (n56 + (1 : Int))) l61
      else c43v1 (List.getD (PV.els p47) (n56).toNat PV.nil) l57 fun l62 =>
      next_w3_0 (IntKind.wrap .i64 (n56 + (1 : Int))) l62
    else none
  else bif (decide ((PV.num (PV.fld p1 0)) = (6 : Int))) then
    c49v1 [49] l57 fun n63 p64 l65 =>
    ret0 l65
  else ret0 l57

theorem f43v1_w3b0_mem (k : Nat) (c37 : PV → (PV → R) → R) (c43v1 : PV → (List PV) → ((List PV) → R) → R) (c49v1 : (List Int) → (List PV) → (Int → PV → (List PV) → R) → R) (retF : (List PV) → R) (NX_w3 : St → R) (p1 : PV) (p47 : PV) (n56 : Int) (l57 : List PV) : exec (f43v1_E k c37 c43v1 c49v1) f43v1_cw3 (purgeK (f43v1_E k c37 c43v1 c49v1) f43v1_cw3 (loopK NX_w3 (kont (f43v1_E k c37 c43v1 c49v1) f43v1_code [1, 1, 0, 1, 0] (endK (f43v1_E k c37 c43v1 c49v1) Try.f43 [2000000, 2000001] f43v1_un retF)))) (f43v1_hw3_0 p1 p47 n56 l57) = f43v1_w3b0 c37 c43v1 c49v1 (fun y0 => retF y0) (fun n56 l57 => NX_w3 (f43v1_hw3_0 p1 p47 n56 l57)) p1 p47 n56 l57 := by kernel_rfl

noncomputable def f43v1_w3b0N (k : Nat) (c37 : PV → (PV → R) → R) (c43v1 : PV → (List PV) → ((List PV) → R) → R) (c49v1 : (List Int) → (List PV) → (Int → PV → (List PV) → R) → R) (ret0 : (List PV) → R) (next_w3_0 : Int → (List PV) → R) (p1 : PV) (p47 : PV) (n56 : Int) (l57 : List PV) : R :=
  f43v1_w3b0 c37 c43v1 c49v1 ret0 next_w3_0 p1 p47 n56 l57
theorem f43v1_w3b0_eq (k : Nat) (c37 : PV → (PV → R) → R) (c43v1 : PV → (List PV) → ((List PV) → R) → R) (c49v1 : (List Int) → (List PV) → (Int → PV → (List PV) → R) → R) (retF : (List PV) → R) (NX_w3 : St → R) (p1 : PV) (p47 : PV) (n56 : Int) (l57 : List PV) : exec (f43v1_E k c37 c43v1 c49v1) f43v1_cw3 (purgeK (f43v1_E k c37 c43v1 c49v1) f43v1_cw3 (loopK NX_w3 (kont (f43v1_E k c37 c43v1 c49v1) f43v1_code [1, 1, 0, 1, 0] (endK (f43v1_E k c37 c43v1 c49v1) Try.f43 [2000000, 2000001] f43v1_un retF)))) (f43v1_hw3_0 p1 p47 n56 l57) = f43v1_w3b0N k c37 c43v1 c49v1 (fun y0 => retF y0) (fun n56 l57 => NX_w3 (f43v1_hw3_0 p1 p47 n56 l57)) p1 p47 n56 l57 :=
  (f43v1_w3b0_mem k c37 c43v1 c49v1 retF NX_w3 p1 p47 n56 l57)

noncomputable def f43v1_w3B (k : Nat) (c37 : PV → (PV → R) → R) (c43v1 : PV → (List PV) → ((List PV) → R) → R) (c49v1 : (List Int) → (List PV) → (Int → PV → (List PV) → R) → R) (ret0 : (List PV) → R) (p1 : PV) (p47 : PV) (nx : Int × (List PV) → R) : Int × (List PV) → R := (fun s => f43v1_w3b0N k c37 c43v1 c49v1 ret0 (fun n56 l57 => nx (n56, l57)) p1 p47 s.1 s.2)
noncomputable def f43v1_w3N (k : Nat) (c37 : PV → (PV → R) → R) (c43v1 : PV → (List PV) → ((List PV) → R) → R) (c49v1 : (List Int) → (List PV) → (Int → PV → (List PV) → R) → R) (ret0 : (List PV) → R) (p1 : PV) (p47 : PV) (n56 : Int) (l57 : List PV) : R := loopR (f43v1_w3B k c37 c43v1 c49v1 ret0 p1 p47) k (n56, l57)
theorem f43v1_w3_eq (k : Nat) (c37 : PV → (PV → R) → R) (c43v1 : PV → (List PV) → ((List PV) → R) → R) (c49v1 : (List Int) → (List PV) → (Int → PV → (List PV) → R) → R) (retF : (List PV) → R) (p1 : PV) (p47 : PV) (n56 : Int) (l57 : List PV) : f43v1_w3A k c37 c43v1 c49v1 retF p1 p47 n56 l57 = f43v1_w3N k c37 c43v1 c49v1 (fun y0 => retF y0) p1 p47 n56 l57 :=
  Eq.mp (by kernel_rfl) (loop_sim (E := (f43v1_E k c37 c43v1 c49v1)) (c := f43v1_cw3) (K := (kont (f43v1_E k c37 c43v1 c49v1) f43v1_code [1, 1, 0, 1, 0] (endK (f43v1_E k c37 c43v1 c49v1) Try.f43 [2000000, 2000001] f43v1_un retF))) (S := Int × (List PV)) (fun s => f43v1_hw3_0 p1 p47 s.1 s.2) (f43v1_w3B k c37 c43v1 c49v1 (fun y0 => retF y0) p1 p47) (fun NX s => by
    exact Eq.mp (by kernel_rfl) (f43v1_w3b0_eq k c37 c43v1 c49v1 retF NX p1 p47 s.1 s.2)) k (n56, l57))

noncomputable def f43v1_e (c37 : PV → (PV → R) → R) (c43v1 : PV → (List PV) → ((List PV) → R) → R) (c49v1 : (List Int) → (List PV) → (Int → PV → (List PV) → R) → R) (ret0 : (List PV) → R) (w1 : PV → Int → (List PV) → R) (w2 : PV → Int → (List PV) → R) (w3 : PV → Int → (List PV) → R) (p1 : PV) (l2 : List PV) : R :=
  bif (decide ((PV.num (PV.fld p1 0)) = (4 : Int))) then
    c49v1 [48] l2 fun n3 p4 l5 =>
    c37 p1 fun p6 =>
    w1 p6 0 l5
  else bif (decide ((PV.num (PV.fld p1 0)) = (5 : Int))) then
    c49v1 [49] l2 fun n25 p26 l27 =>
    c37 p1 fun p28 =>
    w2 p28 0 l27
  else c37 p1 fun p47 =>
  w3 p47 0 l2

theorem f43v1_e_mem (k : Nat) (c37 : PV → (PV → R) → R) (c43v1 : PV → (List PV) → ((List PV) → R) → R) (c49v1 : (List Int) → (List PV) → (Int → PV → (List PV) → R) → R) (retF : (List PV) → R) (p1 : PV) (l2 : List PV) : exec (f43v1_E k c37 c43v1 c49v1) f43v1_code (endK (f43v1_E k c37 c43v1 c49v1) Try.f43 [2000000, 2000001] f43v1_un retF) ⟨[.ptr 2000000 [], .val 24 p1, .undef, .undef, .undef, .undef, .undef, .undef, .undef, .undef, .undef, .undef, .undef, .undef, .undef, .undef, .undef, .undef, .undef, .undef, .undef, .undef, .undef, .undef, .undef, .undef, .undef, .undef, .undef, .undef, .undef, .undef, .undef, .undef, .undef, .undef, .undef], [(2000000, .box 55 (.agg 55 [.ptr 2000000 [], .own 47 2000001])), (2000001, .row 5 l2)]⟩ = f43v1_e c37 c43v1 c49v1 (fun y0 => retF y0) (fun p6 n15 l16 => f43v1_w1A k c37 c43v1 c49v1 retF p1 p6 n15 l16) (fun p28 n37 l38 => f43v1_w2A k c37 c43v1 c49v1 retF p1 p28 n37 l38) (fun p47 n56 l57 => f43v1_w3A k c37 c43v1 c49v1 retF p1 p47 n56 l57) p1 l2 := by kernel_rfl

noncomputable def f43v1_N (k : Nat) (c37 : PV → (PV → R) → R) (c43v1 : PV → (List PV) → ((List PV) → R) → R) (c49v1 : (List Int) → (List PV) → (Int → PV → (List PV) → R) → R) (ret0 : (List PV) → R) (p1 : PV) (l2 : List PV) : R :=
  f43v1_e c37 c43v1 c49v1 ret0 (fun p6 n15 l16 => f43v1_w1N k c37 c43v1 c49v1 ret0 p1 p6 n15 l16) (fun p28 n37 l38 => f43v1_w2N k c37 c43v1 c49v1 ret0 p1 p28 n37 l38) (fun p47 n56 l57 => f43v1_w3N k c37 c43v1 c49v1 ret0 p1 p47 n56 l57) p1 l2
theorem f43v1_eq (k : Nat) (c37 : PV → (PV → R) → R) (c43v1 : PV → (List PV) → ((List PV) → R) → R) (c49v1 : (List Int) → (List PV) → (Int → PV → (List PV) → R) → R) (retF : (List PV) → R) (p1 : PV) (l2 : List PV) : exec (f43v1_E k c37 c43v1 c49v1) f43v1_code (endK (f43v1_E k c37 c43v1 c49v1) Try.f43 [2000000, 2000001] f43v1_un retF) ⟨[.ptr 2000000 [], .val 24 p1, .undef, .undef, .undef, .undef, .undef, .undef, .undef, .undef, .undef, .undef, .undef, .undef, .undef, .undef, .undef, .undef, .undef, .undef, .undef, .undef, .undef, .undef, .undef, .undef, .undef, .undef, .undef, .undef, .undef, .undef, .undef, .undef, .undef, .undef, .undef], [(2000000, .box 55 (.agg 55 [.ptr 2000000 [], .own 47 2000001])), (2000001, .row 5 l2)]⟩ = f43v1_N k c37 c43v1 c49v1 (fun y0 => retF y0) p1 l2 :=
  (f43v1_e_mem k c37 c43v1 c49v1 retF p1 l2).trans (by rw [show (fun p6 n15 l16 => f43v1_w1A k c37 c43v1 c49v1 retF p1 p6 n15 l16) = (fun p6 n15 l16 => f43v1_w1N k c37 c43v1 c49v1 (fun y0 => retF y0) p1 p6 n15 l16) from funext fun p6 => funext fun n15 => funext fun l16 => f43v1_w1_eq k c37 c43v1 c49v1 retF p1 p6 n15 l16, show (fun p28 n37 l38 => f43v1_w2A k c37 c43v1 c49v1 retF p1 p28 n37 l38) = (fun p28 n37 l38 => f43v1_w2N k c37 c43v1 c49v1 (fun y0 => retF y0) p1 p28 n37 l38) from funext fun p28 => funext fun n37 => funext fun l38 => f43v1_w2_eq k c37 c43v1 c49v1 retF p1 p28 n37 l38, show (fun p47 n56 l57 => f43v1_w3A k c37 c43v1 c49v1 retF p1 p47 n56 l57) = (fun p47 n56 l57 => f43v1_w3N k c37 c43v1 c49v1 (fun y0 => retF y0) p1 p47 n56 l57) from funext fun p47 => funext fun n56 => funext fun l57 => f43v1_w3_eq k c37 c43v1 c49v1 retF p1 p47 n56 l57]; rfl)

noncomputable def G43v1 : Nat → PV → (List PV) → ((List PV) → R) → R
  | 0, _, _, _ => none
  | k + 1, p1, l2, ret0 => f43v1_N k (G37 k) (G43v1 k) (G49v1 k) ret0 p1 l2
theorem S43v1 : ∀ k, Snd Try.prog 43 f43v1_I f43v1_O (fun x ret => G43v1 k x.1 x.2 (fun y0 => ret y0))
  | 0 => snd_none
  | k + 1 => snd_step (E := f43v1_E k (G37 k) (G43v1 k) (G49v1 k)) rfl laidOut noNums (orc_ok (S37 k).o f37_D_ok (orc_ok (S43v1 k).o f43v1_D_ok (orc_ok (S49v1 k).o f49v1_D_ok orc0_ok))) (f := 43) (fn := Try.f43) (code := f43v1_code) Try.func43 (by kernel_rfl) (drawsOk_of laidOut (orc_ok (S37 k).o f37_D_ok (orc_ok (S43v1 k).o f43v1_D_ok (orc_ok (S49v1 k).o f49v1_D_ok orc0_ok))) mixed (by kernel_rfl)) f43v1_un f43v1_un_ok [2000000, 2000001] (fun _ => rfl)
      (fun x ret => f43v1_eq k (G37 k) (G43v1 k) (G49v1 k) ret x.1 x.2)

/- catchpole/bits.put -/
noncomputable def f43_I : PV × PV × (List PV) → List SV × Obs := fun x => ([.ptr 2000000 [], .val 24 x.1], [(2000000, .box 55 (.agg 55 [.val 53 x.2.1, .own 47 2000001])), (2000001, .row 5 x.2.2)])
noncomputable def f43_D : List SV → Obs → Option (PV × PV × (List PV))
  | [.ptr 2000000 [], .val 24 p1], [(2000000, .box 55 (.agg 55 [.val 53 p2, .own 47 2000001])), (2000001, .row 5 l3)] => some (p1, p2, l3)
  | _, _ => none
theorem f43_D_ok (args : List SV) (B : Obs) (x : PV × PV × (List PV)) (h : f43_D args B = some x) : f43_I x = (args, B) := by
  unfold f43_D at h
  split at h
  · injection h with h; subst h; rfl
  · cases h
noncomputable def f43_O : Sum ((List PV)) (PV × (List PV)) → Out := (Sum.elim (fun y => ([], [(2000000, .box 55 (.agg 55 [.ptr 2000000 [], .own 47 2000001])), (2000001, .row 5 y)])) (fun y => ([], [(2000000, .box 55 (.agg 55 [.val 53 y.1, .own 47 2000001])), (2000001, .row 5 y.2)])))
noncomputable def f43_un : Out → Option (Sum ((List PV)) (PV × (List PV)))
  | ([], [(2000000, .box 55 (.agg 55 [.ptr 2000000 [], .own 47 2000001])), (2000001, .row 5 y0)]) => some (.inl y0)
  | ([], [(2000000, .box 55 (.agg 55 [.val 53 y0, .own 47 2000001])), (2000001, .row 5 y1)]) => some (.inr (y0, y1))
  | _ => none
theorem f43_un_ok (o : Out) (y : Sum ((List PV)) (PV × (List PV))) (h : f43_un o = some y) : o = f43_O y := by
  unfold f43_un at h
  split at h
  · injection h with h; subst h; rfl
  · injection h with h; subst h; rfl
  · cases h
noncomputable def f43_msk : Nat → Option (List Nat) := fun key => bif key == 21 then some [0, 3, 17, 18, 19] else none
noncomputable def f43_C (c37 : PV → (PV → R) → R) (c43 : PV → PV → (List PV) → ((List PV) → R) → (PV → (List PV) → R) → R) (c43v1 : PV → (List PV) → ((List PV) → R) → R) (c49 : (List Int) → PV → (List PV) → (Int → PV → (List PV) → R) → R) (c49v1 : (List Int) → (List PV) → (Int → PV → (List PV) → R) → R) : Oracle := orc 37 f37_D f37_O (fun x ret => c37 x (fun y0 => ret y0)) <| orc 43 f43_D f43_O (fun x ret => c43 x.1 x.2.1 x.2.2 (fun y0 => ret (.inl y0)) (fun y0 y1 => ret (.inr (y0, y1)))) <| orc 43 f43v1_D f43v1_O (fun x ret => c43v1 x.1 x.2 (fun y0 => ret y0)) <| orc 49 f49_D f49_O (fun x ret => c49 x.1 x.2.1 x.2.2 (fun y0 y1 y2 => ret (y0, y1, y2))) <| orc 49 f49v1_D f49v1_O (fun x ret => c49v1 x.1 x.2 (fun y0 y1 y2 => ret (y0, y1, y2))) <| orc0
noncomputable def f43_E (k : Nat) (c37 : PV → (PV → R) → R) (c43 : PV → PV → (List PV) → ((List PV) → R) → (PV → (List PV) → R) → R) (c43v1 : PV → (List PV) → ((List PV) → R) → R) (c49 : (List Int) → PV → (List PV) → (Int → PV → (List PV) → R) → R) (c49v1 : (List Int) → (List PV) → (Int → PV → (List PV) → R) → R) : Env := { P := Try.prog, nilOwn := fun d => false, fldOwn := fun d i => false, ownPar := ownPars, ownRet := false, mask := f43_msk, fuel := k, C := f43_C c37 c43 c43v1 c49 c49v1 }
noncomputable def f43_code : Code := Try.f43.body.getD .skip
noncomputable def f43_cw1 : Code := subC f43_code [1, 1, 0, 1, 0, 0]
noncomputable def f43_hw1_0 (p1 : PV) (p7 : PV) (n16 : Int) (l17 : List PV) : St := ⟨[.ptr 2000000 [], .dead, .dead, .ptr 3 [], .dead, .dead, .dead, .dead, .dead, .dead, .dead, .dead, .dead, .dead, .dead, .dead, .dead, .val 22 p7, .int .i64 (List.length (PV.els p7) : Int), .int .i64 n16, .dead, .dead, .dead, .dead, .dead, .dead, .dead, .dead, .dead, .dead, .dead, .dead, .dead, .dead, .dead, .dead, .dead], [(3, .box 24 (.val 24 p1)), (2000000, .box 55 (.agg 55 [.ptr 2000000 [], .own 47 2000001])), (2000001, .row 5 l17)]⟩
noncomputable def f43_w1A (k : Nat) (c37 : PV → (PV → R) → R) (c43 : PV → PV → (List PV) → ((List PV) → R) → (PV → (List PV) → R) → R) (c43v1 : PV → (List PV) → ((List PV) → R) → R) (c49 : (List Int) → PV → (List PV) → (Int → PV → (List PV) → R) → R) (c49v1 : (List Int) → (List PV) → (Int → PV → (List PV) → R) → R) (retF : Sum ((List PV)) (PV × (List PV)) → R) (p1 : PV) (p7 : PV) (n16 : Int) (l17 : List PV) : R := loopM (f43_E k c37 c43 c43v1 c49 c49v1) f43_cw1 (kont (f43_E k c37 c43 c43v1 c49 c49v1) f43_code [1, 1, 0, 1, 0] (endK (f43_E k c37 c43 c43v1 c49 c49v1) Try.f43 [2000000, 2000001] f43_un retF)) k (f43_hw1_0 p1 p7 n16 l17)
noncomputable def f43_w1b0 (c37 : PV → (PV → R) → R) (c43 : PV → PV → (List PV) → ((List PV) → R) → (PV → (List PV) → R) → R) (c43v1 : PV → (List PV) → ((List PV) → R) → R) (c49 : (List Int) → PV → (List PV) → (Int → PV → (List PV) → R) → R) (c49v1 : (List Int) → (List PV) → (Int → PV → (List PV) → R) → R) (ret0 : (List PV) → R) (ret1 : PV → (List PV) → R) (next_w1_0 : Int → (List PV) → R) (p1 : PV) (p7 : PV) (n16 : Int) (l17 : List PV) : R :=
  bif (decide (n16 < (List.length (PV.els p7) : Int))) then
    bif (true && decide ((0 : Int) ≤ n16) && decide (n16 < (List.length (PV.els p7) : Int))) then
      bif (decide ((PV.num (PV.fld p1 0)) = (6 : Int))) then
        c49v1 [48] l17 fun n18 p19 l20 =>
        c43v1 (List.getD (PV.els p7) (n16).toNat PV.nil) l20 fun l21 =>
        next_w1_0 (IntKind.wrap .i64 (n16 + (1 : Int))) l21
      else c43v1 (List.getD (PV.els p7) (n16).toNat PV.nil) l17 fun l22 =>
      next_w1_0 (IntKind.wrap .i64 (n16 + (1 : Int))) l22
    else none
  else bif (decide ((PV.num (PV.fld p1 0)) = (6 : Int))) then
    c49v1 [49] l17 fun n23 p24 l25 =>
    ret0 l25
  else ret0 l17

theorem f43_w1b0_mem (k : Nat) (c37 : PV → (PV → R) → R) (c43 : PV → PV → (List PV) → ((List PV) → R) → (PV → (List PV) → R) → R) (c43v1 : PV → (List PV) → ((List PV) → R) → R) (c49 : (List Int) → PV → (List PV) → (Int → PV → (List PV) → R) → R) (c49v1 : (List Int) → (List PV) → (Int → PV → (List PV) → R) → R) (retF : Sum ((List PV)) (PV × (List PV)) → R) (NX_w1 : St → R) (p1 : PV) (p7 : PV) (n16 : Int) (l17 : List PV) : exec (f43_E k c37 c43 c43v1 c49 c49v1) f43_cw1 (purgeK (f43_E k c37 c43 c43v1 c49 c49v1) f43_cw1 (loopK NX_w1 (kont (f43_E k c37 c43 c43v1 c49 c49v1) f43_code [1, 1, 0, 1, 0] (endK (f43_E k c37 c43 c43v1 c49 c49v1) Try.f43 [2000000, 2000001] f43_un retF)))) (f43_hw1_0 p1 p7 n16 l17) = f43_w1b0 c37 c43 c43v1 c49 c49v1 (fun y0 => retF (.inl y0)) (fun y0 y1 => retF (.inr (y0, y1))) (fun n16 l17 => NX_w1 (f43_hw1_0 p1 p7 n16 l17)) p1 p7 n16 l17 := by kernel_rfl

noncomputable def f43_w1b0N (k : Nat) (c37 : PV → (PV → R) → R) (c43 : PV → PV → (List PV) → ((List PV) → R) → (PV → (List PV) → R) → R) (c43v1 : PV → (List PV) → ((List PV) → R) → R) (c49 : (List Int) → PV → (List PV) → (Int → PV → (List PV) → R) → R) (c49v1 : (List Int) → (List PV) → (Int → PV → (List PV) → R) → R) (ret0 : (List PV) → R) (ret1 : PV → (List PV) → R) (next_w1_0 : Int → (List PV) → R) (p1 : PV) (p7 : PV) (n16 : Int) (l17 : List PV) : R :=
  f43_w1b0 c37 c43 c43v1 c49 c49v1 ret0 ret1 next_w1_0 p1 p7 n16 l17
theorem f43_w1b0_eq (k : Nat) (c37 : PV → (PV → R) → R) (c43 : PV → PV → (List PV) → ((List PV) → R) → (PV → (List PV) → R) → R) (c43v1 : PV → (List PV) → ((List PV) → R) → R) (c49 : (List Int) → PV → (List PV) → (Int → PV → (List PV) → R) → R) (c49v1 : (List Int) → (List PV) → (Int → PV → (List PV) → R) → R) (retF : Sum ((List PV)) (PV × (List PV)) → R) (NX_w1 : St → R) (p1 : PV) (p7 : PV) (n16 : Int) (l17 : List PV) : exec (f43_E k c37 c43 c43v1 c49 c49v1) f43_cw1 (purgeK (f43_E k c37 c43 c43v1 c49 c49v1) f43_cw1 (loopK NX_w1 (kont (f43_E k c37 c43 c43v1 c49 c49v1) f43_code [1, 1, 0, 1, 0] (endK (f43_E k c37 c43 c43v1 c49 c49v1) Try.f43 [2000000, 2000001] f43_un retF)))) (f43_hw1_0 p1 p7 n16 l17) = f43_w1b0N k c37 c43 c43v1 c49 c49v1 (fun y0 => retF (.inl y0)) (fun y0 y1 => retF (.inr (y0, y1))) (fun n16 l17 => NX_w1 (f43_hw1_0 p1 p7 n16 l17)) p1 p7 n16 l17 :=
  (f43_w1b0_mem k c37 c43 c43v1 c49 c49v1 retF NX_w1 p1 p7 n16 l17)

noncomputable def f43_w1B (k : Nat) (c37 : PV → (PV → R) → R) (c43 : PV → PV → (List PV) → ((List PV) → R) → (PV → (List PV) → R) → R) (c43v1 : PV → (List PV) → ((List PV) → R) → R) (c49 : (List Int) → PV → (List PV) → (Int → PV → (List PV) → R) → R) (c49v1 : (List Int) → (List PV) → (Int → PV → (List PV) → R) → R) (ret0 : (List PV) → R) (ret1 : PV → (List PV) → R) (p1 : PV) (p7 : PV) (nx : Int × (List PV) → R) : Int × (List PV) → R := (fun s => f43_w1b0N k c37 c43 c43v1 c49 c49v1 ret0 ret1 (fun n16 l17 => nx (n16, l17)) p1 p7 s.1 s.2)
noncomputable def f43_w1N (k : Nat) (c37 : PV → (PV → R) → R) (c43 : PV → PV → (List PV) → ((List PV) → R) → (PV → (List PV) → R) → R) (c43v1 : PV → (List PV) → ((List PV) → R) → R) (c49 : (List Int) → PV → (List PV) → (Int → PV → (List PV) → R) → R) (c49v1 : (List Int) → (List PV) → (Int → PV → (List PV) → R) → R) (ret0 : (List PV) → R) (ret1 : PV → (List PV) → R) (p1 : PV) (p7 : PV) (n16 : Int) (l17 : List PV) : R := loopR (f43_w1B k c37 c43 c43v1 c49 c49v1 ret0 ret1 p1 p7) k (n16, l17)
theorem f43_w1_eq (k : Nat) (c37 : PV → (PV → R) → R) (c43 : PV → PV → (List PV) → ((List PV) → R) → (PV → (List PV) → R) → R) (c43v1 : PV → (List PV) → ((List PV) → R) → R) (c49 : (List Int) → PV → (List PV) → (Int → PV → (List PV) → R) → R) (c49v1 : (List Int) → (List PV) → (Int → PV → (List PV) → R) → R) (retF : Sum ((List PV)) (PV × (List PV)) → R) (p1 : PV) (p7 : PV) (n16 : Int) (l17 : List PV) : f43_w1A k c37 c43 c43v1 c49 c49v1 retF p1 p7 n16 l17 = f43_w1N k c37 c43 c43v1 c49 c49v1 (fun y0 => retF (.inl y0)) (fun y0 y1 => retF (.inr (y0, y1))) p1 p7 n16 l17 :=
  Eq.mp (by kernel_rfl) (loop_sim (E := (f43_E k c37 c43 c43v1 c49 c49v1)) (c := f43_cw1) (K := (kont (f43_E k c37 c43 c43v1 c49 c49v1) f43_code [1, 1, 0, 1, 0] (endK (f43_E k c37 c43 c43v1 c49 c49v1) Try.f43 [2000000, 2000001] f43_un retF))) (S := Int × (List PV)) (fun s => f43_hw1_0 p1 p7 s.1 s.2) (f43_w1B k c37 c43 c43v1 c49 c49v1 (fun y0 => retF (.inl y0)) (fun y0 y1 => retF (.inr (y0, y1))) p1 p7) (fun NX s => by
    exact Eq.mp (by kernel_rfl) (f43_w1b0_eq k c37 c43 c43v1 c49 c49v1 retF NX p1 p7 s.1 s.2)) k (n16, l17))

noncomputable def f43_cw2 : Code := subC f43_code [1, 1, 0, 1, 0, 0]
noncomputable def f43_hw2_0 (p1 : PV) (p29 : PV) (n38 : Int) (l39 : List PV) : St := ⟨[.ptr 2000000 [], .dead, .dead, .ptr 3 [], .dead, .dead, .dead, .dead, .dead, .dead, .dead, .dead, .dead, .dead, .dead, .dead, .dead, .val 22 p29, .int .i64 (List.length (PV.els p29) : Int), .int .i64 n38, .dead, .dead, .dead, .dead, .dead, .dead, .dead, .dead, .dead, .dead, .dead, .dead, .dead, .dead, .dead, .dead, .dead], [(3, .box 24 (.val 24 p1)), (2000000, .box 55 (.agg 55 [.ptr 2000000 [], .own 47 2000001])), (2000001, .row 5 l39)]⟩
noncomputable def f43_w2A (k : Nat) (c37 : PV → (PV → R) → R) (c43 : PV → PV → (List PV) → ((List PV) → R) → (PV → (List PV) → R) → R) (c43v1 : PV → (List PV) → ((List PV) → R) → R) (c49 : (List Int) → PV → (List PV) → (Int → PV → (List PV) → R) → R) (c49v1 : (List Int) → (List PV) → (Int → PV → (List PV) → R) → R) (retF : Sum ((List PV)) (PV × (List PV)) → R) (p1 : PV) (p29 : PV) (n38 : Int) (l39 : List PV) : R := loopM (f43_E k c37 c43 c43v1 c49 c49v1) f43_cw2 (kont (f43_E k c37 c43 c43v1 c49 c49v1) f43_code [1, 1, 0, 1, 0] (endK (f43_E k c37 c43 c43v1 c49 c49v1) Try.f43 [2000000, 2000001] f43_un retF)) k (f43_hw2_0 p1 p29 n38 l39)
noncomputable def f43_w2b0 (c37 : PV → (PV → R) → R) (c43 : PV → PV → (List PV) → ((List PV) → R) → (PV → (List PV) → R) → R) (c43v1 : PV → (List PV) → ((List PV) → R) → R) (c49 : (List Int) → PV → (List PV) → (Int → PV → (List PV) → R) → R) (c49v1 : (List Int) → (List PV) → (Int → PV → (List PV) → R) → R) (ret0 : (List PV) → R) (ret1 : PV → (List PV) → R) (next_w2_0 : Int → (List PV) → R) (p1 : PV) (p29 : PV) (n38 : Int) (l39 : List PV) : R :=
  bif (decide (n38 < (List.length (PV.els p29) : Int))) then
    bif (true && decide ((0 : Int) ≤ n38) && decide (n38 < (List.length (PV.els p29) : Int))) then
      bif (decide ((PV.num (PV.fld p1 0)) = (6 : Int))) then
        c49v1 [48] l39 fun n40 p41 l42 =>
        c43v1 (List.getD (PV.els p29) (n38).toNat PV.nil) l42 fun l43 =>
        next_w2_0 (IntKind.wrap .i64 (n38 + (1 : Int))) l43
      else c43v1 (List.getD (PV.els p29) (n38).toNat PV.nil) l39 fun l44 =>
      next_w2_0 (IntKind.wrap .i64 (n38 + (1 : Int))) l44
    else none
  else bif (decide ((PV.num (PV.fld p1 0)) = (6 : Int))) then
    c49v1 [49] l39 fun n45 p46 l47 =>
    ret0 l47
  else ret0 l39

theorem f43_w2b0_mem (k : Nat) (c37 : PV → (PV → R) → R) (c43 : PV → PV → (List PV) → ((List PV) → R) → (PV → (List PV) → R) → R) (c43v1 : PV → (List PV) → ((List PV) → R) → R) (c49 : (List Int) → PV → (List PV) → (Int → PV → (List PV) → R) → R) (c49v1 : (List Int) → (List PV) → (Int → PV → (List PV) → R) → R) (retF : Sum ((List PV)) (PV × (List PV)) → R) (NX_w2 : St → R) (p1 : PV) (p29 : PV) (n38 : Int) (l39 : List PV) : exec (f43_E k c37 c43 c43v1 c49 c49v1) f43_cw2 (purgeK (f43_E k c37 c43 c43v1 c49 c49v1) f43_cw2 (loopK NX_w2 (kont (f43_E k c37 c43 c43v1 c49 c49v1) f43_code [1, 1, 0, 1, 0] (endK (f43_E k c37 c43 c43v1 c49 c49v1) Try.f43 [2000000, 2000001] f43_un retF)))) (f43_hw2_0 p1 p29 n38 l39) = f43_w2b0 c37 c43 c43v1 c49 c49v1 (fun y0 => retF (.inl y0)) (fun y0 y1 => retF (.inr (y0, y1))) (fun n38 l39 => NX_w2 (f43_hw2_0 p1 p29 n38 l39)) p1 p29 n38 l39 := by kernel_rfl

noncomputable def f43_w2b0N (k : Nat) (c37 : PV → (PV → R) → R) (c43 : PV → PV → (List PV) → ((List PV) → R) → (PV → (List PV) → R) → R) (c43v1 : PV → (List PV) → ((List PV) → R) → R) (c49 : (List Int) → PV → (List PV) → (Int → PV → (List PV) → R) → R) (c49v1 : (List Int) → (List PV) → (Int → PV → (List PV) → R) → R) (ret0 : (List PV) → R) (ret1 : PV → (List PV) → R) (next_w2_0 : Int → (List PV) → R) (p1 : PV) (p29 : PV) (n38 : Int) (l39 : List PV) : R :=
  f43_w2b0 c37 c43 c43v1 c49 c49v1 ret0 ret1 next_w2_0 p1 p29 n38 l39
theorem f43_w2b0_eq (k : Nat) (c37 : PV → (PV → R) → R) (c43 : PV → PV → (List PV) → ((List PV) → R) → (PV → (List PV) → R) → R) (c43v1 : PV → (List PV) → ((List PV) → R) → R) (c49 : (List Int) → PV → (List PV) → (Int → PV → (List PV) → R) → R) (c49v1 : (List Int) → (List PV) → (Int → PV → (List PV) → R) → R) (retF : Sum ((List PV)) (PV × (List PV)) → R) (NX_w2 : St → R) (p1 : PV) (p29 : PV) (n38 : Int) (l39 : List PV) : exec (f43_E k c37 c43 c43v1 c49 c49v1) f43_cw2 (purgeK (f43_E k c37 c43 c43v1 c49 c49v1) f43_cw2 (loopK NX_w2 (kont (f43_E k c37 c43 c43v1 c49 c49v1) f43_code [1, 1, 0, 1, 0] (endK (f43_E k c37 c43 c43v1 c49 c49v1) Try.f43 [2000000, 2000001] f43_un retF)))) (f43_hw2_0 p1 p29 n38 l39) = f43_w2b0N k c37 c43 c43v1 c49 c49v1 (fun y0 => retF (.inl y0)) (fun y0 y1 => retF (.inr (y0, y1))) (fun n38 l39 => NX_w2 (f43_hw2_0 p1 p29 n38 l39)) p1 p29 n38 l39 :=
  (f43_w2b0_mem k c37 c43 c43v1 c49 c49v1 retF NX_w2 p1 p29 n38 l39)

noncomputable def f43_w2B (k : Nat) (c37 : PV → (PV → R) → R) (c43 : PV → PV → (List PV) → ((List PV) → R) → (PV → (List PV) → R) → R) (c43v1 : PV → (List PV) → ((List PV) → R) → R) (c49 : (List Int) → PV → (List PV) → (Int → PV → (List PV) → R) → R) (c49v1 : (List Int) → (List PV) → (Int → PV → (List PV) → R) → R) (ret0 : (List PV) → R) (ret1 : PV → (List PV) → R) (p1 : PV) (p29 : PV) (nx : Int × (List PV) → R) : Int × (List PV) → R := (fun s => f43_w2b0N k c37 c43 c43v1 c49 c49v1 ret0 ret1 (fun n38 l39 => nx (n38, l39)) p1 p29 s.1 s.2)
noncomputable def f43_w2N (k : Nat) (c37 : PV → (PV → R) → R) (c43 : PV → PV → (List PV) → ((List PV) → R) → (PV → (List PV) → R) → R) (c43v1 : PV → (List PV) → ((List PV) → R) → R) (c49 : (List Int) → PV → (List PV) → (Int → PV → (List PV) → R) → R) (c49v1 : (List Int) → (List PV) → (Int → PV → (List PV) → R) → R) (ret0 : (List PV) → R) (ret1 : PV → (List PV) → R) (p1 : PV) (p29 : PV) (n38 : Int) (l39 : List PV) : R := loopR (f43_w2B k c37 c43 c43v1 c49 c49v1 ret0 ret1 p1 p29) k (n38, l39)
theorem f43_w2_eq (k : Nat) (c37 : PV → (PV → R) → R) (c43 : PV → PV → (List PV) → ((List PV) → R) → (PV → (List PV) → R) → R) (c43v1 : PV → (List PV) → ((List PV) → R) → R) (c49 : (List Int) → PV → (List PV) → (Int → PV → (List PV) → R) → R) (c49v1 : (List Int) → (List PV) → (Int → PV → (List PV) → R) → R) (retF : Sum ((List PV)) (PV × (List PV)) → R) (p1 : PV) (p29 : PV) (n38 : Int) (l39 : List PV) : f43_w2A k c37 c43 c43v1 c49 c49v1 retF p1 p29 n38 l39 = f43_w2N k c37 c43 c43v1 c49 c49v1 (fun y0 => retF (.inl y0)) (fun y0 y1 => retF (.inr (y0, y1))) p1 p29 n38 l39 :=
  Eq.mp (by kernel_rfl) (loop_sim (E := (f43_E k c37 c43 c43v1 c49 c49v1)) (c := f43_cw2) (K := (kont (f43_E k c37 c43 c43v1 c49 c49v1) f43_code [1, 1, 0, 1, 0] (endK (f43_E k c37 c43 c43v1 c49 c49v1) Try.f43 [2000000, 2000001] f43_un retF))) (S := Int × (List PV)) (fun s => f43_hw2_0 p1 p29 s.1 s.2) (f43_w2B k c37 c43 c43v1 c49 c49v1 (fun y0 => retF (.inl y0)) (fun y0 y1 => retF (.inr (y0, y1))) p1 p29) (fun NX s => by
    exact Eq.mp (by kernel_rfl) (f43_w2b0_eq k c37 c43 c43v1 c49 c49v1 retF NX p1 p29 s.1 s.2)) k (n38, l39))

noncomputable def f43_cw3 : Code := subC f43_code [1, 1, 0, 1, 0, 0]
noncomputable def f43_hw3_0 (p1 : PV) (p48 : PV) (n72 : Int) (p73 : PV) (l74 : List PV) : St := ⟨[.ptr 2000000 [], .dead, .dead, .ptr 3 [], .dead, .dead, .dead, .dead, .dead, .dead, .dead, .dead, .dead, .dead, .dead, .dead, .dead, .val 22 p48, .int .i64 (List.length (PV.els p48) : Int), .int .i64 n72, .dead, .dead, .dead, .dead, .dead, .dead, .dead, .dead, .dead, .dead, .dead, .dead, .dead, .dead, .dead, .dead, .dead], [(3, .box 24 (.val 24 p1)), (2000000, .box 55 (.agg 55 [.val 53 p73, .own 47 2000001])), (2000001, .row 5 l74)]⟩
noncomputable def f43_hw3_1 (p1 : PV) (p48 : PV) (n85 : Int) (l86 : List PV) : St := ⟨[.ptr 2000000 [], .dead, .dead, .ptr 3 [], .dead, .dead, .dead, .dead, .dead, .dead, .dead, .dead, .dead, .dead, .dead, .dead, .dead, .val 22 p48, .int .i64 (List.length (PV.els p48) : Int), .int .i64 n85, .dead, .dead, .dead, .dead, .dead, .dead, .dead, .dead, .dead, .dead, .dead, .dead, .dead, .dead, .dead, .dead, .dead], [(3, .box 24 (.val 24 p1)), (2000000, .box 55 (.agg 55 [.ptr 2000000 [], .own 47 2000001])), (2000001, .row 5 l86)]⟩
noncomputable def f43_w3A (k : Nat) (c37 : PV → (PV → R) → R) (c43 : PV → PV → (List PV) → ((List PV) → R) → (PV → (List PV) → R) → R) (c43v1 : PV → (List PV) → ((List PV) → R) → R) (c49 : (List Int) → PV → (List PV) → (Int → PV → (List PV) → R) → R) (c49v1 : (List Int) → (List PV) → (Int → PV → (List PV) → R) → R) (retF : Sum ((List PV)) (PV × (List PV)) → R) (p1 : PV) (p48 : PV) (n72 : Int) (p73 : PV) (l74 : List PV) : R := loopM (f43_E k c37 c43 c43v1 c49 c49v1) f43_cw3 (kont (f43_E k c37 c43 c43v1 c49 c49v1) f43_code [1, 1, 0, 1, 0] (endK (f43_E k c37 c43 c43v1 c49 c49v1) Try.f43 [2000000, 2000001] f43_un retF)) k (f43_hw3_0 p1 p48 n72 p73 l74)
noncomputable def f43_w3b0 (c37 : PV → (PV → R) → R) (c43 : PV → PV → (List PV) → ((List PV) → R) → (PV → (List PV) → R) → R) (c43v1 : PV → (List PV) → ((List PV) → R) → R) (c49 : (List Int) → PV → (List PV) → (Int → PV → (List PV) → R) → R) (c49v1 : (List Int) → (List PV) → (Int → PV → (List PV) → R) → R) (ret0 : (List PV) → R) (ret1 : PV → (List PV) → R) (next_w3_0 : Int → PV → (List PV) → R) (next_w3_1 : Int → (List PV) → R) (p1 : PV) (p48 : PV) (n72 : Int) (p73 : PV) (l74 : List PV) : R :=
  bif (decide (n72 < (List.length (PV.els p48) : Int))) then
    bif (true && decide ((0 : Int) ≤ n72) && decide (n72 < (List.length (PV.els p48) : Int))) then
      bif (decide ((PV.num (PV.fld p1 0)) = (6 : Int))) then
        c49 [48] p73 l74 fun n75 p76 l77 =>
        c43v1 (List.getD (PV.els p48) (n72).toNat PV.nil) l77 fun l78 =>
        next_w3_1 (IntKind.wrap .i64 (n72 + (1 : Int))) l78
      else c43 (List.getD (PV.els p48) (n72).toNat PV.nil) p73 l74 (fun l79 =>
      next_w3_1 (IntKind.wrap .i64 (n72 + (1 : Int))) l79) (fun p80 l81 =>
      next_w3_0 (IntKind.wrap .i64 (n72 + (1 : Int))) p80 l81)
    else none
  else bif (decide ((PV.num (PV.fld p1 0)) = (6 : Int))) then
    c49 [49] p73 l74 fun n82 p83 l84 =>
    ret0 l84
  else ret1 p73 l74

theorem f43_w3b0_mem (k : Nat) (c37 : PV → (PV → R) → R) (c43 : PV → PV → (List PV) → ((List PV) → R) → (PV → (List PV) → R) → R) (c43v1 : PV → (List PV) → ((List PV) → R) → R) (c49 : (List Int) → PV → (List PV) → (Int → PV → (List PV) → R) → R) (c49v1 : (List Int) → (List PV) → (Int → PV → (List PV) → R) → R) (retF : Sum ((List PV)) (PV × (List PV)) → R) (NX_w3 : St → R) (p1 : PV) (p48 : PV) (n72 : Int) (p73 : PV) (l74 : List PV) : exec (f43_E k c37 c43 c43v1 c49 c49v1) f43_cw3 (purgeK (f43_E k c37 c43 c43v1 c49 c49v1) f43_cw3 (loopK NX_w3 (kont (f43_E k c37 c43 c43v1 c49 c49v1) f43_code [1, 1, 0, 1, 0] (endK (f43_E k c37 c43 c43v1 c49 c49v1) Try.f43 [2000000, 2000001] f43_un retF)))) (f43_hw3_0 p1 p48 n72 p73 l74) = f43_w3b0 c37 c43 c43v1 c49 c49v1 (fun y0 => retF (.inl y0)) (fun y0 y1 => retF (.inr (y0, y1))) (fun n72 p73 l74 => NX_w3 (f43_hw3_0 p1 p48 n72 p73 l74)) (fun n85 l86 => NX_w3 (f43_hw3_1 p1 p48 n85 l86)) p1 p48 n72 p73 l74 := by kernel_rfl

noncomputable def f43_w3b0N (k : Nat) (c37 : PV → (PV → R) → R) (c43 : PV → PV → (List PV) → ((List PV) → R) → (PV → (List PV) → R) → R) (c43v1 : PV → (List PV) → ((List PV) → R) → R) (c49 : (List Int) → PV → (List PV) → (Int → PV → (List PV) → R) → R) (c49v1 : (List Int) → (List PV) → (Int → PV → (List PV) → R) → R) (ret0 : (List PV) → R) (ret1 : PV → (List PV) → R) (next_w3_0 : Int → PV → (List PV) → R) (next_w3_1 : Int → (List PV) → R) (p1 : PV) (p48 : PV) (n72 : Int) (p73 : PV) (l74 : List PV) : R :=
  f43_w3b0 c37 c43 c43v1 c49 c49v1 ret0 ret1 next_w3_0 next_w3_1 p1 p48 n72 p73 l74
theorem f43_w3b0_eq (k : Nat) (c37 : PV → (PV → R) → R) (c43 : PV → PV → (List PV) → ((List PV) → R) → (PV → (List PV) → R) → R) (c43v1 : PV → (List PV) → ((List PV) → R) → R) (c49 : (List Int) → PV → (List PV) → (Int → PV → (List PV) → R) → R) (c49v1 : (List Int) → (List PV) → (Int → PV → (List PV) → R) → R) (retF : Sum ((List PV)) (PV × (List PV)) → R) (NX_w3 : St → R) (p1 : PV) (p48 : PV) (n72 : Int) (p73 : PV) (l74 : List PV) : exec (f43_E k c37 c43 c43v1 c49 c49v1) f43_cw3 (purgeK (f43_E k c37 c43 c43v1 c49 c49v1) f43_cw3 (loopK NX_w3 (kont (f43_E k c37 c43 c43v1 c49 c49v1) f43_code [1, 1, 0, 1, 0] (endK (f43_E k c37 c43 c43v1 c49 c49v1) Try.f43 [2000000, 2000001] f43_un retF)))) (f43_hw3_0 p1 p48 n72 p73 l74) = f43_w3b0N k c37 c43 c43v1 c49 c49v1 (fun y0 => retF (.inl y0)) (fun y0 y1 => retF (.inr (y0, y1))) (fun n72 p73 l74 => NX_w3 (f43_hw3_0 p1 p48 n72 p73 l74)) (fun n85 l86 => NX_w3 (f43_hw3_1 p1 p48 n85 l86)) p1 p48 n72 p73 l74 :=
  (f43_w3b0_mem k c37 c43 c43v1 c49 c49v1 retF NX_w3 p1 p48 n72 p73 l74)

noncomputable def f43_w3b1 (c37 : PV → (PV → R) → R) (c43 : PV → PV → (List PV) → ((List PV) → R) → (PV → (List PV) → R) → R) (c43v1 : PV → (List PV) → ((List PV) → R) → R) (c49 : (List Int) → PV → (List PV) → (Int → PV → (List PV) → R) → R) (c49v1 : (List Int) → (List PV) → (Int → PV → (List PV) → R) → R) (ret0 : (List PV) → R) (ret1 : PV → (List PV) → R) (next_w3_0 : Int → PV → (List PV) → R) (next_w3_1 : Int → (List PV) → R) (p1 : PV) (p48 : PV) (n85 : Int) (l86 : List PV) : R :=
  bif (decide (n85 < (List.length (PV.els p48) : Int))) then
    bif (true && decide ((0 : Int) ≤ n85) && decide (n85 < (List.length (PV.els p48) : Int))) then
      bif (decide ((PV.num (PV.fld p1 0)) = (6 : Int))) then
        c49v1 [48] l86 fun n87 p88 l89 =>
        c43v1 (List.getD (PV.els p48) (n85).toNat PV.nil) l89 fun l90 =>
        next_w3_1 (IntKind.wrap .i64 (n85 + (1 : Int))) l90
      else c43v1 (List.getD (PV.els p48) (n85).toNat PV.nil) l86 fun l91 =>
      next_w3_1 (IntKind.wrap .i64 (n85 + (1 : Int))) l91
    else none
  else bif (decide ((PV.num (PV.fld p1 0)) = (6 : Int))) then
    c49v1 [49] l86 fun n92 p93 l94 =>
    ret0 l94
  else ret0 l86

theorem f43_w3b1_mem (k : Nat) (c37 : PV → (PV → R) → R) (c43 : PV → PV → (List PV) → ((List PV) → R) → (PV → (List PV) → R) → R) (c43v1 : PV → (List PV) → ((List PV) → R) → R) (c49 : (List Int) → PV → (List PV) → (Int → PV → (List PV) → R) → R) (c49v1 : (List Int) → (List PV) → (Int → PV → (List PV) → R) → R) (retF : Sum ((List PV)) (PV × (List PV)) → R) (NX_w3 : St → R) (p1 : PV) (p48 : PV) (n85 : Int) (l86 : List PV) : exec (f43_E k c37 c43 c43v1 c49 c49v1) f43_cw3 (purgeK (f43_E k c37 c43 c43v1 c49 c49v1) f43_cw3 (loopK NX_w3 (kont (f43_E k c37 c43 c43v1 c49 c49v1) f43_code [1, 1, 0, 1, 0] (endK (f43_E k c37 c43 c43v1 c49 c49v1) Try.f43 [2000000, 2000001] f43_un retF)))) (f43_hw3_1 p1 p48 n85 l86) = f43_w3b1 c37 c43 c43v1 c49 c49v1 (fun y0 => retF (.inl y0)) (fun y0 y1 => retF (.inr (y0, y1))) (fun n72 p73 l74 => NX_w3 (f43_hw3_0 p1 p48 n72 p73 l74)) (fun n85 l86 => NX_w3 (f43_hw3_1 p1 p48 n85 l86)) p1 p48 n85 l86 := by kernel_rfl

noncomputable def f43_w3b1N (k : Nat) (c37 : PV → (PV → R) → R) (c43 : PV → PV → (List PV) → ((List PV) → R) → (PV → (List PV) → R) → R) (c43v1 : PV → (List PV) → ((List PV) → R) → R) (c49 : (List Int) → PV → (List PV) → (Int → PV → (List PV) → R) → R) (c49v1 : (List Int) → (List PV) → (Int → PV → (List PV) → R) → R) (ret0 : (List PV) → R) (ret1 : PV → (List PV) → R) (next_w3_0 : Int → PV → (List PV) → R) (next_w3_1 : Int → (List PV) → R) (p1 : PV) (p48 : PV) (n85 : Int) (l86 : List PV) : R :=
  f43_w3b1 c37 c43 c43v1 c49 c49v1 ret0 ret1 next_w3_0 next_w3_1 p1 p48 n85 l86
theorem f43_w3b1_eq (k : Nat) (c37 : PV → (PV → R) → R) (c43 : PV → PV → (List PV) → ((List PV) → R) → (PV → (List PV) → R) → R) (c43v1 : PV → (List PV) → ((List PV) → R) → R) (c49 : (List Int) → PV → (List PV) → (Int → PV → (List PV) → R) → R) (c49v1 : (List Int) → (List PV) → (Int → PV → (List PV) → R) → R) (retF : Sum ((List PV)) (PV × (List PV)) → R) (NX_w3 : St → R) (p1 : PV) (p48 : PV) (n85 : Int) (l86 : List PV) : exec (f43_E k c37 c43 c43v1 c49 c49v1) f43_cw3 (purgeK (f43_E k c37 c43 c43v1 c49 c49v1) f43_cw3 (loopK NX_w3 (kont (f43_E k c37 c43 c43v1 c49 c49v1) f43_code [1, 1, 0, 1, 0] (endK (f43_E k c37 c43 c43v1 c49 c49v1) Try.f43 [2000000, 2000001] f43_un retF)))) (f43_hw3_1 p1 p48 n85 l86) = f43_w3b1N k c37 c43 c43v1 c49 c49v1 (fun y0 => retF (.inl y0)) (fun y0 y1 => retF (.inr (y0, y1))) (fun n72 p73 l74 => NX_w3 (f43_hw3_0 p1 p48 n72 p73 l74)) (fun n85 l86 => NX_w3 (f43_hw3_1 p1 p48 n85 l86)) p1 p48 n85 l86 :=
  (f43_w3b1_mem k c37 c43 c43v1 c49 c49v1 retF NX_w3 p1 p48 n85 l86)

noncomputable def f43_w3B (k : Nat) (c37 : PV → (PV → R) → R) (c43 : PV → PV → (List PV) → ((List PV) → R) → (PV → (List PV) → R) → R) (c43v1 : PV → (List PV) → ((List PV) → R) → R) (c49 : (List Int) → PV → (List PV) → (Int → PV → (List PV) → R) → R) (c49v1 : (List Int) → (List PV) → (Int → PV → (List PV) → R) → R) (ret0 : (List PV) → R) (ret1 : PV → (List PV) → R) (p1 : PV) (p48 : PV) (nx : Sum (Int × PV × (List PV)) (Int × (List PV)) → R) : Sum (Int × PV × (List PV)) (Int × (List PV)) → R := (Sum.elim (fun s => f43_w3b0N k c37 c43 c43v1 c49 c49v1 ret0 ret1 (fun n72 p73 l74 => nx (.inl (n72, p73, l74))) (fun n85 l86 => nx (.inr (n85, l86))) p1 p48 s.1 s.2.1 s.2.2) (fun s => f43_w3b1N k c37 c43 c43v1 c49 c49v1 ret0 ret1 (fun n72 p73 l74 => nx (.inl (n72, p73, l74))) (fun n85 l86 => nx (.inr (n85, l86))) p1 p48 s.1 s.2))
noncomputable def f43_w3N (k : Nat) (c37 : PV → (PV → R) → R) (c43 : PV → PV → (List PV) → ((List PV) → R) → (PV → (List PV) → R) → R) (c43v1 : PV → (List PV) → ((List PV) → R) → R) (c49 : (List Int) → PV → (List PV) → (Int → PV → (List PV) → R) → R) (c49v1 : (List Int) → (List PV) → (Int → PV → (List PV) → R) → R) (ret0 : (List PV) → R) (ret1 : PV → (List PV) → R) (p1 : PV) (p48 : PV) (n72 : Int) (p73 : PV) (l74 : List PV) : R := loopR (f43_w3B k c37 c43 c43v1 c49 c49v1 ret0 ret1 p1 p48) k (.inl (n72, p73, l74))
theorem f43_w3_eq (k : Nat) (c37 : PV → (PV → R) → R) (c43 : PV → PV → (List PV) → ((List PV) → R) → (PV → (List PV) → R) → R) (c43v1 : PV → (List PV) → ((List PV) → R) → R) (c49 : (List Int) → PV → (List PV) → (Int → PV → (List PV) → R) → R) (c49v1 : (List Int) → (List PV) → (Int → PV → (List PV) → R) → R) (retF : Sum ((List PV)) (PV × (List PV)) → R) (p1 : PV) (p48 : PV) (n72 : Int) (p73 : PV) (l74 : List PV) : f43_w3A k c37 c43 c43v1 c49 c49v1 retF p1 p48 n72 p73 l74 = f43_w3N k c37 c43 c43v1 c49 c49v1 (fun y0 => retF (.inl y0)) (fun y0 y1 => retF (.inr (y0, y1))) p1 p48 n72 p73 l74 :=
  Eq.mp (by kernel_rfl) (loop_sim (E := (f43_E k c37 c43 c43v1 c49 c49v1)) (c := f43_cw3) (K := (kont (f43_E k c37 c43 c43v1 c49 c49v1) f43_code [1, 1, 0, 1, 0] (endK (f43_E k c37 c43 c43v1 c49 c49v1) Try.f43 [2000000, 2000001] f43_un retF))) (S := Sum (Int × PV × (List PV)) (Int × (List PV))) (Sum.elim (fun s => f43_hw3_0 p1 p48 s.1 s.2.1 s.2.2) (fun s => f43_hw3_1 p1 p48 s.1 s.2)) (f43_w3B k c37 c43 c43v1 c49 c49v1 (fun y0 => retF (.inl y0)) (fun y0 y1 => retF (.inr (y0, y1))) p1 p48) (fun NX s => by
    cases s with
    | inl s => exact Eq.mp (by kernel_rfl) (f43_w3b0_eq k c37 c43 c43v1 c49 c49v1 retF NX p1 p48 s.1 s.2.1 s.2.2)
    | inr s =>
      exact Eq.mp (by kernel_rfl) (f43_w3b1_eq k c37 c43 c43v1 c49 c49v1 retF NX p1 p48 s.1 s.2)) k (.inl (n72, p73, l74)))

noncomputable def f43_e (c37 : PV → (PV → R) → R) (c43 : PV → PV → (List PV) → ((List PV) → R) → (PV → (List PV) → R) → R) (c43v1 : PV → (List PV) → ((List PV) → R) → R) (c49 : (List Int) → PV → (List PV) → (Int → PV → (List PV) → R) → R) (c49v1 : (List Int) → (List PV) → (Int → PV → (List PV) → R) → R) (ret0 : (List PV) → R) (ret1 : PV → (List PV) → R) (w1 : PV → Int → (List PV) → R) (w2 : PV → Int → (List PV) → R) (w3 : PV → Int → PV → (List PV) → R) (p1 : PV) (p2 : PV) (l3 : List PV) : R :=
  bif (decide ((PV.num (PV.fld p1 0)) = (4 : Int))) then
    c49 [48] p2 l3 fun n4 p5 l6 =>
    c37 p1 fun p7 =>
    w1 p7 0 l6
  else bif (decide ((PV.num (PV.fld p1 0)) = (5 : Int))) then
    c49 [49] p2 l3 fun n26 p27 l28 =>
    c37 p1 fun p29 =>
    w2 p29 0 l28
  else c37 p1 fun p48 =>
  w3 p48 0 p2 l3

theorem f43_e_mem (k : Nat) (c37 : PV → (PV → R) → R) (c43 : PV → PV → (List PV) → ((List PV) → R) → (PV → (List PV) → R) → R) (c43v1 : PV → (List PV) → ((List PV) → R) → R) (c49 : (List Int) → PV → (List PV) → (Int → PV → (List PV) → R) → R) (c49v1 : (List Int) → (List PV) → (Int → PV → (List PV) → R) → R) (retF : Sum ((List PV)) (PV × (List PV)) → R) (p1 : PV) (p2 : PV) (l3 : List PV) : exec (f43_E k c37 c43 c43v1 c49 c49v1) f43_code (endK (f43_E k c37 c43 c43v1 c49 c49v1) Try.f43 [2000000, 2000001] f43_un retF) ⟨[.ptr 2000000 [], .val 24 p1, .undef, .undef, .undef, .undef, .undef, .undef, .undef, .undef, .undef, .undef, .undef, .undef, .undef, .undef, .undef, .undef, .undef, .undef, .undef, .undef, .undef, .undef, .undef, .undef, .undef, .undef, .undef, .undef, .undef, .undef, .undef, .undef, .undef, .undef, .undef], [(2000000, .box 55 (.agg 55 [.val 53 p2, .own 47 2000001])), (2000001, .row 5 l3)]⟩ = f43_e c37 c43 c43v1 c49 c49v1 (fun y0 => retF (.inl y0)) (fun y0 y1 => retF (.inr (y0, y1))) (fun p7 n16 l17 => f43_w1A k c37 c43 c43v1 c49 c49v1 retF p1 p7 n16 l17) (fun p29 n38 l39 => f43_w2A k c37 c43 c43v1 c49 c49v1 retF p1 p29 n38 l39) (fun p48 n72 p73 l74 => f43_w3A k c37 c43 c43v1 c49 c49v1 retF p1 p48 n72 p73 l74) p1 p2 l3 := by kernel_rfl

noncomputable def f43_N (k : Nat) (c37 : PV → (PV → R) → R) (c43 : PV → PV → (List PV) → ((List PV) → R) → (PV → (List PV) → R) → R) (c43v1 : PV → (List PV) → ((List PV) → R) → R) (c49 : (List Int) → PV → (List PV) → (Int → PV → (List PV) → R) → R) (c49v1 : (List Int) → (List PV) → (Int → PV → (List PV) → R) → R) (ret0 : (List PV) → R) (ret1 : PV → (List PV) → R) (p1 : PV) (p2 : PV) (l3 : List PV) : R :=
  f43_e c37 c43 c43v1 c49 c49v1 ret0 ret1 (fun p7 n16 l17 => f43_w1N k c37 c43 c43v1 c49 c49v1 ret0 ret1 p1 p7 n16 l17) (fun p29 n38 l39 => f43_w2N k c37 c43 c43v1 c49 c49v1 ret0 ret1 p1 p29 n38 l39) (fun p48 n72 p73 l74 => f43_w3N k c37 c43 c43v1 c49 c49v1 ret0 ret1 p1 p48 n72 p73 l74) p1 p2 l3
theorem f43_eq (k : Nat) (c37 : PV → (PV → R) → R) (c43 : PV → PV → (List PV) → ((List PV) → R) → (PV → (List PV) → R) → R) (c43v1 : PV → (List PV) → ((List PV) → R) → R) (c49 : (List Int) → PV → (List PV) → (Int → PV → (List PV) → R) → R) (c49v1 : (List Int) → (List PV) → (Int → PV → (List PV) → R) → R) (retF : Sum ((List PV)) (PV × (List PV)) → R) (p1 : PV) (p2 : PV) (l3 : List PV) : exec (f43_E k c37 c43 c43v1 c49 c49v1) f43_code (endK (f43_E k c37 c43 c43v1 c49 c49v1) Try.f43 [2000000, 2000001] f43_un retF) ⟨[.ptr 2000000 [], .val 24 p1, .undef, .undef, .undef, .undef, .undef, .undef, .undef, .undef, .undef, .undef, .undef, .undef, .undef, .undef, .undef, .undef, .undef, .undef, .undef, .undef, .undef, .undef, .undef, .undef, .undef, .undef, .undef, .undef, .undef, .undef, .undef, .undef, .undef, .undef, .undef], [(2000000, .box 55 (.agg 55 [.val 53 p2, .own 47 2000001])), (2000001, .row 5 l3)]⟩ = f43_N k c37 c43 c43v1 c49 c49v1 (fun y0 => retF (.inl y0)) (fun y0 y1 => retF (.inr (y0, y1))) p1 p2 l3 :=
  (f43_e_mem k c37 c43 c43v1 c49 c49v1 retF p1 p2 l3).trans (by rw [show (fun p7 n16 l17 => f43_w1A k c37 c43 c43v1 c49 c49v1 retF p1 p7 n16 l17) = (fun p7 n16 l17 => f43_w1N k c37 c43 c43v1 c49 c49v1 (fun y0 => retF (.inl y0)) (fun y0 y1 => retF (.inr (y0, y1))) p1 p7 n16 l17) from funext fun p7 => funext fun n16 => funext fun l17 => f43_w1_eq k c37 c43 c43v1 c49 c49v1 retF p1 p7 n16 l17, show (fun p29 n38 l39 => f43_w2A k c37 c43 c43v1 c49 c49v1 retF p1 p29 n38 l39) = (fun p29 n38 l39 => f43_w2N k c37 c43 c43v1 c49 c49v1 (fun y0 => retF (.inl y0)) (fun y0 y1 => retF (.inr (y0, y1))) p1 p29 n38 l39) from funext fun p29 => funext fun n38 => funext fun l39 => f43_w2_eq k c37 c43 c43v1 c49 c49v1 retF p1 p29 n38 l39, show (fun p48 n72 p73 l74 => f43_w3A k c37 c43 c43v1 c49 c49v1 retF p1 p48 n72 p73 l74) = (fun p48 n72 p73 l74 => f43_w3N k c37 c43 c43v1 c49 c49v1 (fun y0 => retF (.inl y0)) (fun y0 y1 => retF (.inr (y0, y1))) p1 p48 n72 p73 l74) from funext fun p48 => funext fun n72 => funext fun p73 => funext fun l74 => f43_w3_eq k c37 c43 c43v1 c49 c49v1 retF p1 p48 n72 p73 l74]; rfl)

noncomputable def G43 : Nat → PV → PV → (List PV) → ((List PV) → R) → (PV → (List PV) → R) → R
  | 0, _, _, _, _, _ => none
  | k + 1, p1, p2, l3, ret0, ret1 => f43_N k (G37 k) (G43 k) (G43v1 k) (G49 k) (G49v1 k) ret0 ret1 p1 p2 l3
theorem S43 : ∀ k, Snd Try.prog 43 f43_I f43_O (fun x ret => G43 k x.1 x.2.1 x.2.2 (fun y0 => ret (.inl y0)) (fun y0 y1 => ret (.inr (y0, y1))))
  | 0 => snd_none
  | k + 1 => snd_step (E := f43_E k (G37 k) (G43 k) (G43v1 k) (G49 k) (G49v1 k)) rfl laidOut noNums (orc_ok (S37 k).o f37_D_ok (orc_ok (S43 k).o f43_D_ok (orc_ok (S43v1 k).o f43v1_D_ok (orc_ok (S49 k).o f49_D_ok (orc_ok (S49v1 k).o f49v1_D_ok orc0_ok))))) (f := 43) (fn := Try.f43) (code := f43_code) Try.func43 (by kernel_rfl) (drawsOk_of laidOut (orc_ok (S37 k).o f37_D_ok (orc_ok (S43 k).o f43_D_ok (orc_ok (S43v1 k).o f43v1_D_ok (orc_ok (S49 k).o f49_D_ok (orc_ok (S49v1 k).o f49v1_D_ok orc0_ok))))) mixed (by kernel_rfl)) f43_un f43_un_ok [2000000, 2000001] (fun _ => rfl)
      (fun x ret => f43_eq k (G37 k) (G43 k) (G43v1 k) (G49 k) (G49v1 k) ret x.1 x.2.1 x.2.2)

/- (*strings.Builder).String -/
noncomputable def f44_I : (List PV) → List SV × Obs := fun x => ([.ptr 2000000 []], [(2000000, .box 55 (.agg 55 [.ptr 2000000 [], .own 47 2000001])), (2000001, .row 5 x)])
noncomputable def f44_D : List SV → Obs → Option ((List PV))
  | [.ptr 2000000 []], [(2000000, .box 55 (.agg 55 [.ptr 2000000 [], .own 47 2000001])), (2000001, .row 5 l1)] => some l1
  | _, _ => none
theorem f44_D_ok (args : List SV) (B : Obs) (x : (List PV)) (h : f44_D args B = some x) : f44_I x = (args, B) := by
  unfold f44_D at h
  split at h
  · injection h with h; subst h; rfl
  · cases h
noncomputable def f44_O : (List Int) → Out := (fun y => ([.str y], [(2000000, .box 55 (.agg 55 [.ptr 2000000 [], .dead]))]))
noncomputable def f44_un : Out → Option ((List Int))
  | ([.str y0], [(2000000, .box 55 (.agg 55 [.ptr 2000000 [], .dead]))]) => some y0
  | _ => none
theorem f44_un_ok (o : Out) (y : (List Int)) (h : f44_un o = some y) : o = f44_O y := by
  unfold f44_un at h
  split at h
  · injection h with h; subst h; rfl
  · cases h

noncomputable def G44 : Nat → (List PV) → ((List Int) → R) → R
  | _, l, ret0 => ret0 (l.map PV.num)
theorem S44 : ∀ k, SndO Try.prog 44 f44_I f44_O (fun x ret => G44 k x (fun y0 => ret y0)) := fun k => Bld.strUsed

/- (*strings.Builder).String -/
noncomputable def f44v1_I : PV × (List PV) → List SV × Obs := fun x => ([.ptr 2000000 []], [(2000000, .box 55 (.agg 55 [.val 53 x.1, .own 47 2000001])), (2000001, .row 5 x.2)])
noncomputable def f44v1_D : List SV → Obs → Option (PV × (List PV))
  | [.ptr 2000000 []], [(2000000, .box 55 (.agg 55 [.val 53 p1, .own 47 2000001])), (2000001, .row 5 l2)] => some (p1, l2)
  | _, _ => none
theorem f44v1_D_ok (args : List SV) (B : Obs) (x : PV × (List PV)) (h : f44v1_D args B = some x) : f44v1_I x = (args, B) := by
  unfold f44v1_D at h
  split at h
  · injection h with h; subst h; rfl
  · cases h
noncomputable def f44v1_O : (List Int) × PV → Out := (fun y => ([.str y.1], [(2000000, .box 55 (.agg 55 [.val 53 y.2, .dead]))]))
noncomputable def f44v1_un : Out → Option ((List Int) × PV)
  | ([.str y0], [(2000000, .box 55 (.agg 55 [.val 53 y1, .dead]))]) => some (y0, y1)
  | _ => none
theorem f44v1_un_ok (o : Out) (y : (List Int) × PV) (h : f44v1_un o = some y) : o = f44v1_O y := by
  unfold f44v1_un at h
  split at h
  · injection h with h; subst h; rfl
  · cases h

noncomputable def G44v1 : Nat → PV → (List PV) → ((List Int) → PV → R) → R
  | _, p, l, ret0 => ret0 (l.map PV.num) p
theorem S44v1 : ∀ k, SndO Try.prog 44 f44v1_I f44v1_O (fun x ret => G44v1 k x.1 x.2 (fun y0 y1 => ret (y0, y1))) := fun k => Bld.strFresh

/- catchpole/bits.Put -/
noncomputable def f26_I : PV → List SV × Obs := fun x => ([.val 24 x], [])
noncomputable def f26_D : List SV → Obs → Option (PV)
  | [.val 24 p1], [] => some p1
  | _, _ => none
theorem f26_D_ok (args : List SV) (B : Obs) (x : PV) (h : f26_D args B = some x) : f26_I x = (args, B) := by
  unfold f26_D at h
  split at h
  · injection h with h; subst h; rfl
  · cases h
noncomputable def f26_O : (List Int) → Out := (fun y => ([.str y], []))
noncomputable def f26_un : Out → Option ((List Int))
  | ([.str y0], []) => some y0
  | _ => none
theorem f26_un_ok (o : Out) (y : (List Int)) (h : f26_un o = some y) : o = f26_O y := by
  unfold f26_un at h
  split at h
  · injection h with h; subst h; rfl
  · cases h
noncomputable def f26_msk : Nat → Option (List Nat) := fun key =>  none
noncomputable def f26_C (c43 : PV → PV → (List PV) → ((List PV) → R) → (PV → (List PV) → R) → R) (c44 : (List PV) → ((List Int) → R) → R) (c44v1 : PV → (List PV) → ((List Int) → PV → R) → R) : Oracle := orc 43 f43_D f43_O (fun x ret => c43 x.1 x.2.1 x.2.2 (fun y0 => ret (.inl y0)) (fun y0 y1 => ret (.inr (y0, y1)))) <| orc 44 f44_D f44_O (fun x ret => c44 x (fun y0 => ret y0)) <| orc 44 f44v1_D f44v1_O (fun x ret => c44v1 x.1 x.2 (fun y0 y1 => ret (y0, y1))) <| orc0
noncomputable def f26_E (k : Nat) (c43 : PV → PV → (List PV) → ((List PV) → R) → (PV → (List PV) → R) → R) (c44 : (List PV) → ((List Int) → R) → R) (c44v1 : PV → (List PV) → ((List Int) → PV → R) → R) : Env := { P := Try.prog, nilOwn := fun d => false, fldOwn := fun d i => (d == 3 && i == 1), ownPar := ownPars, ownRet := false, mask := f26_msk, fuel := k, C := f26_C c43 c44 c44v1 }
noncomputable def f26_code : Code := Try.f26.body.getD .skip
noncomputable def f26_e (c43 : PV → PV → (List PV) → ((List PV) → R) → (PV → (List PV) → R) → R) (c44 : (List PV) → ((List Int) → R) → R) (c44v1 : PV → (List PV) → ((List Int) → PV → R) → R) (ret0 : (List Int) → R) (p1 : PV) : R :=
  c43 p1 PV.nil [] (fun l2 =>
  c44 l2 fun s5 =>
  ret0 s5) (fun p3 l4 =>
  c44v1 p3 l4 fun s6 p7 =>
  ret0 s6)

theorem f26_e_mem (k : Nat) (c43 : PV → PV → (List PV) → ((List PV) → R) → (PV → (List PV) → R) → R) (c44 : (List PV) → ((List Int) → R) → R) (c44v1 : PV → (List PV) → ((List Int) → PV → R) → R) (retF : (List Int) → R) (p1 : PV) : exec (f26_E k c43 c44 c44v1) f26_code (endK (f26_E k c43 c44 c44v1) Try.f26 [] f26_un retF) ⟨[.val 24 p1, .undef, .undef, .undef, .undef, .undef, .undef], []⟩ = f26_e c43 c44 c44v1 (fun y0 => retF y0) p1 := by kernel_rfl

noncomputable def f26_N (k : Nat) (c43 : PV → PV → (List PV) → ((List PV) → R) → (PV → (List PV) → R) → R) (c44 : (List PV) → ((List Int) → R) → R) (c44v1 : PV → (List PV) → ((List Int) → PV → R) → R) (ret0 : (List Int) → R) (p1 : PV) : R :=
  f26_e c43 c44 c44v1 ret0 p1
theorem f26_eq (k : Nat) (c43 : PV → PV → (List PV) → ((List PV) → R) → (PV → (List PV) → R) → R) (c44 : (List PV) → ((List Int) → R) → R) (c44v1 : PV → (List PV) → ((List Int) → PV → R) → R) (retF : (List Int) → R) (p1 : PV) : exec (f26_E k c43 c44 c44v1) f26_code (endK (f26_E k c43 c44 c44v1) Try.f26 [] f26_un retF) ⟨[.val 24 p1, .undef, .undef, .undef, .undef, .undef, .undef], []⟩ = f26_N k c43 c44 c44v1 (fun y0 => retF y0) p1 :=
  (f26_e_mem k c43 c44 c44v1 retF p1)

noncomputable def G26 : Nat → PV → ((List Int) → R) → R
  | 0, _, _ => none
  | k + 1, p1, ret0 => f26_N k (G43 k) (G44 k) (G44v1 k) ret0 p1
theorem S26 : ∀ k, Snd Try.prog 26 f26_I f26_O (fun x ret => G26 k x (fun y0 => ret y0))
  | 0 => snd_none
  | k + 1 => snd_step (E := f26_E k (G43 k) (G44 k) (G44v1 k)) rfl laidOut noNums (orc_ok (S43 k).o f43_D_ok (orc_ok (S44 k).o f44_D_ok (orc_ok (S44v1 k).o f44v1_D_ok orc0_ok))) (f := 26) (fn := Try.f26) (code := f26_code) Try.func26 (by kernel_rfl) (drawsOk_of laidOut (orc_ok (S43 k).o f43_D_ok (orc_ok (S44 k).o f44_D_ok (orc_ok (S44v1 k).o f44v1_D_ok orc0_ok))) mixed (by kernel_rfl)) f26_un f26_un_ok [] (fun _ => rfl)
      (fun x ret => f26_eq k (G43 k) (G44 k) (G44v1 k) ret x)

/- internal/bytealg.abigen_runtime_cmpstring -/
noncomputable def f50_I : (List Int) × (List Int) → List SV × Obs := fun x => ([.str x.1, .str x.2], [])
noncomputable def f50_D : List SV → Obs → Option ((List Int) × (List Int))
  | [.str s1, .str s2], [] => some (s1, s2)
  | _, _ => none
theorem f50_D_ok (args : List SV) (B : Obs) (x : (List Int) × (List Int)) (h : f50_D args B = some x) : f50_I x = (args, B) := by
  unfold f50_D at h
  split at h
  · injection h with h; subst h; rfl
  · cases h
noncomputable def f50_O : Int → Out := (fun y => ([.int .i64 y], []))
noncomputable def f50_un : Out → Option (Int)
  | ([.int .i64 y0], []) => some y0
  | _ => none
theorem f50_un_ok (o : Out) (y : Int) (h : f50_un o = some y) : o = f50_O y := by
  unfold f50_un at h
  split at h
  · injection h with h; subst h; rfl
  · cases h

noncomputable def G50 : Nat → (List Int) → (List Int) → (Int → R) → R
  | _, p, q, ret0 => ret0 (lexC p q)
theorem S50 : ∀ k, SndO Try.prog 50 f50_I f50_O (fun x ret => G50 k x.1 x.2 (fun y0 => ret y0)) := fun k => cmp_str_o Try.func50 (by kernel_rfl) (by kernel_rfl) (by kernel_rfl) (by kernel_rfl)

/- internal/bytealg.CompareString -/
noncomputable def f48_I : (List Int) × (List Int) → List SV × Obs := fun x => ([.str x.1, .str x.2], [])
noncomputable def f48_D : List SV → Obs → Option ((List Int) × (List Int))
  | [.str s1, .str s2], [] => some (s1, s2)
  | _, _ => none
theorem f48_D_ok (args : List SV) (B : Obs) (x : (List Int) × (List Int)) (h : f48_D args B = some x) : f48_I x = (args, B) := by
  unfold f48_D at h
  split at h
  · injection h with h; subst h; rfl
  · cases h
noncomputable def f48_O : Int → Out := (fun y => ([.int .i64 y], []))
noncomputable def f48_un : Out → Option (Int)
  | ([.int .i64 y0], []) => some y0
  | _ => none
theorem f48_un_ok (o : Out) (y : Int) (h : f48_un o = some y) : o = f48_O y := by
  unfold f48_un at h
  split at h
  · injection h with h; subst h; rfl
  · cases h
noncomputable def f48_msk : Nat → Option (List Nat) := fun key =>  none
noncomputable def f48_C (c50 : (List Int) → (List Int) → (Int → R) → R) : Oracle := orc 50 f50_D f50_O (fun x ret => c50 x.1 x.2 (fun y0 => ret y0)) <| orc0
noncomputable def f48_E (k : Nat) (c50 : (List Int) → (List Int) → (Int → R) → R) : Env := { P := Try.prog, nilOwn := fun d => false, fldOwn := fun d i => false, ownPar := ownPars, ownRet := false, mask := f48_msk, fuel := k, C := f48_C c50 }
noncomputable def f48_code : Code := Try.f48.body.getD .skip
noncomputable def f48_e (c50 : (List Int) → (List Int) → (Int → R) → R) (ret0 : Int → R) (s1 : List Int) (s2 : List Int) : R :=
  c50 s1 s2 fun n3 =>
  ret0 n3

theorem f48_e_mem (k : Nat) (c50 : (List Int) → (List Int) → (Int → R) → R) (retF : Int → R) (s1 : List Int) (s2 : List Int) : exec (f48_E k c50) f48_code (endK (f48_E k c50) Try.f48 [] f48_un retF) ⟨[.str s1, .str s2, .undef, .undef, .undef, .undef, .undef, .undef], []⟩ = f48_e c50 (fun y0 => retF y0) s1 s2 := by kernel_rfl

noncomputable def f48_N (k : Nat) (c50 : (List Int) → (List Int) → (Int → R) → R) (ret0 : Int → R) (s1 : List Int) (s2 : List Int) : R :=
  f48_e c50 ret0 s1 s2
theorem f48_eq (k : Nat) (c50 : (List Int) → (List Int) → (Int → R) → R) (retF : Int → R) (s1 : List Int) (s2 : List Int) : exec (f48_E k c50) f48_code (endK (f48_E k c50) Try.f48 [] f48_un retF) ⟨[.str s1, .str s2, .undef, .undef, .undef, .undef, .undef, .undef], []⟩ = f48_N k c50 (fun y0 => retF y0) s1 s2 :=
  (f48_e_mem k c50 retF s1 s2)

noncomputable def G48 : Nat → (List Int) → (List Int) → (Int → R) → R
  | 0, _, _, _ => none
  | k + 1, s1, s2, ret0 => f48_N k (G50 k) ret0 s1 s2
theorem S48 : ∀ k, Snd Try.prog 48 f48_I f48_O (fun x ret => G48 k x.1 x.2 (fun y0 => ret y0))
  | 0 => snd_none
  | k + 1 => snd_step (E := f48_E k (G50 k)) rfl laidOut noNums (orc_ok (S50 k).o f50_D_ok orc0_ok) (f := 48) (fn := Try.f48) (code := f48_code) Try.func48 (by kernel_rfl) (drawsOk_of laidOut (orc_ok (S50 k).o f50_D_ok orc0_ok) mixed (by kernel_rfl)) f48_un f48_un_ok [] (fun _ => rfl)
      (fun x ret => f48_eq k (G50 k) ret x.1 x.2)

/- strings.Compare -/
noncomputable def f42_I : (List Int) × (List Int) → List SV × Obs := fun x => ([.str x.1, .str x.2], [])
noncomputable def f42_D : List SV → Obs → Option ((List Int) × (List Int))
  | [.str s1, .str s2], [] => some (s1, s2)
  | _, _ => none
theorem f42_D_ok (args : List SV) (B : Obs) (x : (List Int) × (List Int)) (h : f42_D args B = some x) : f42_I x = (args, B) := by
  unfold f42_D at h
  split at h
  · injection h with h; subst h; rfl
  · cases h
noncomputable def f42_O : Int → Out := (fun y => ([.int .i64 y], []))
noncomputable def f42_un : Out → Option (Int)
  | ([.int .i64 y0], []) => some y0
  | _ => none
theorem f42_un_ok (o : Out) (y : Int) (h : f42_un o = some y) : o = f42_O y := by
  unfold f42_un at h
  split at h
  · injection h with h; subst h; rfl
  · cases h
noncomputable def f42_msk : Nat → Option (List Nat) := fun key =>  none
noncomputable def f42_C (c48 : (List Int) → (List Int) → (Int → R) → R) : Oracle := orc 48 f48_D f48_O (fun x ret => c48 x.1 x.2 (fun y0 => ret y0)) <| orc0
noncomputable def f42_E (k : Nat) (c48 : (List Int) → (List Int) → (Int → R) → R) : Env := { P := Try.prog, nilOwn := fun d => false, fldOwn := fun d i => false, ownPar := ownPars, ownRet := false, mask := f42_msk, fuel := k, C := f42_C c48 }
noncomputable def f42_code : Code := Try.f42.body.getD .skip
noncomputable def f42_e (c48 : (List Int) → (List Int) → (Int → R) → R) (ret0 : Int → R) (s1 : List Int) (s2 : List Int) : R :=
  c48 s1 s2 fun n3 =>
  ret0 n3

theorem f42_e_mem (k : Nat) (c48 : (List Int) → (List Int) → (Int → R) → R) (retF : Int → R) (s1 : List Int) (s2 : List Int) : exec (f42_E k c48) f42_code (endK (f42_E k c48) Try.f42 [] f42_un retF) ⟨[.str s1, .str s2, .undef, .undef, .undef, .undef, .undef, .undef], []⟩ = f42_e c48 (fun y0 => retF y0) s1 s2 := by kernel_rfl

noncomputable def f42_N (k : Nat) (c48 : (List Int) → (List Int) → (Int → R) → R) (ret0 : Int → R) (s1 : List Int) (s2 : List Int) : R :=
  f42_e c48 ret0 s1 s2
theorem f42_eq (k : Nat) (c48 : (List Int) → (List Int) → (Int → R) → R) (retF : Int → R) (s1 : List Int) (s2 : List Int) : exec (f42_E k c48) f42_code (endK (f42_E k c48) Try.f42 [] f42_un retF) ⟨[.str s1, .str s2, .undef, .undef, .undef, .undef, .undef, .undef], []⟩ = f42_N k c48 (fun y0 => retF y0) s1 s2 :=
  (f42_e_mem k c48 retF s1 s2)

noncomputable def G42 : Nat → (List Int) → (List Int) → (Int → R) → R
  | 0, _, _, _ => none
  | k + 1, s1, s2, ret0 => f42_N k (G48 k) ret0 s1 s2
theorem S42 : ∀ k, Snd Try.prog 42 f42_I f42_O (fun x ret => G42 k x.1 x.2 (fun y0 => ret y0))
  | 0 => snd_none
  | k + 1 => snd_step (E := f42_E k (G48 k)) rfl laidOut noNums (orc_ok (S48 k).o f48_D_ok orc0_ok) (f := 42) (fn := Try.f42) (code := f42_code) Try.func42 (by kernel_rfl) (drawsOk_of laidOut (orc_ok (S48 k).o f48_D_ok orc0_ok) mixed (by kernel_rfl)) f42_un f42_un_ok [] (fun _ => rfl)
      (fun x ret => f42_eq k (G48 k) ret x.1 x.2)

/- catchpole/eager.Cmp -/
noncomputable def f25_I : PV × PV → List SV × Obs := fun x => ([.val 24 x.1, .val 24 x.2], [])
noncomputable def f25_D : List SV → Obs → Option (PV × PV)
  | [.val 24 p1, .val 24 p2], [] => some (p1, p2)
  | _, _ => none
theorem f25_D_ok (args : List SV) (B : Obs) (x : PV × PV) (h : f25_D args B = some x) : f25_I x = (args, B) := by
  unfold f25_D at h
  split at h
  · injection h with h; subst h; rfl
  · cases h
noncomputable def f25_O : Int → Out := (fun y => ([.int .i64 y], []))
noncomputable def f25_un : Out → Option (Int)
  | ([.int .i64 y0], []) => some y0
  | _ => none
theorem f25_un_ok (o : Out) (y : Int) (h : f25_un o = some y) : o = f25_O y := by
  unfold f25_un at h
  split at h
  · injection h with h; subst h; rfl
  · cases h
noncomputable def f25_msk : Nat → Option (List Nat) := fun key =>  none
noncomputable def f25_C (c26 : PV → ((List Int) → R) → R) (c42 : (List Int) → (List Int) → (Int → R) → R) : Oracle := orc 26 f26_D f26_O (fun x ret => c26 x (fun y0 => ret y0)) <| orc 42 f42_D f42_O (fun x ret => c42 x.1 x.2 (fun y0 => ret y0)) <| orc0
noncomputable def f25_E (k : Nat) (c26 : PV → ((List Int) → R) → R) (c42 : (List Int) → (List Int) → (Int → R) → R) : Env := { P := Try.prog, nilOwn := fun d => false, fldOwn := fun d i => false, ownPar := ownPars, ownRet := false, mask := f25_msk, fuel := k, C := f25_C c26 c42 }
noncomputable def f25_code : Code := Try.f25.body.getD .skip
noncomputable def f25_e (c26 : PV → ((List Int) → R) → R) (c42 : (List Int) → (List Int) → (Int → R) → R) (ret0 : Int → R) (p1 : PV) (p2 : PV) : R :=
  c26 p1 fun s3 =>
  c26 p2 fun s4 =>
  c42 s3 s4 fun n5 =>
  ret0 n5

theorem f25_e_mem (k : Nat) (c26 : PV → ((List Int) → R) → R) (c42 : (List Int) → (List Int) → (Int → R) → R) (retF : Int → R) (p1 : PV) (p2 : PV) : exec (f25_E k c26 c42) f25_code (endK (f25_E k c26 c42) Try.f25 [] f25_un retF) ⟨[.val 24 p1, .val 24 p2, .undef, .undef, .undef, .undef, .undef, .undef, .undef, .undef], []⟩ = f25_e c26 c42 (fun y0 => retF y0) p1 p2 := by kernel_rfl

noncomputable def f25_N (k : Nat) (c26 : PV → ((List Int) → R) → R) (c42 : (List Int) → (List Int) → (Int → R) → R) (ret0 : Int → R) (p1 : PV) (p2 : PV) : R :=
  f25_e c26 c42 ret0 p1 p2
theorem f25_eq (k : Nat) (c26 : PV → ((List Int) → R) → R) (c42 : (List Int) → (List Int) → (Int → R) → R) (retF : Int → R) (p1 : PV) (p2 : PV) : exec (f25_E k c26 c42) f25_code (endK (f25_E k c26 c42) Try.f25 [] f25_un retF) ⟨[.val 24 p1, .val 24 p2, .undef, .undef, .undef, .undef, .undef, .undef, .undef, .undef], []⟩ = f25_N k c26 c42 (fun y0 => retF y0) p1 p2 :=
  (f25_e_mem k c26 c42 retF p1 p2)

noncomputable def G25 : Nat → PV → PV → (Int → R) → R
  | 0, _, _, _ => none
  | k + 1, p1, p2, ret0 => f25_N k (G26 k) (G42 k) ret0 p1 p2
theorem S25 : ∀ k, Snd Try.prog 25 f25_I f25_O (fun x ret => G25 k x.1 x.2 (fun y0 => ret y0))
  | 0 => snd_none
  | k + 1 => snd_step (E := f25_E k (G26 k) (G42 k)) rfl laidOut noNums (orc_ok (S26 k).o f26_D_ok (orc_ok (S42 k).o f42_D_ok orc0_ok)) (f := 25) (fn := Try.f25) (code := f25_code) Try.func25 (by kernel_rfl) (drawsOk_of laidOut (orc_ok (S26 k).o f26_D_ok (orc_ok (S42 k).o f42_D_ok orc0_ok)) mixed (by kernel_rfl)) f25_un f25_un_ok [] (fun _ => rfl)
      (fun x ret => f25_eq k (G26 k) (G42 k) ret x.1 x.2)

/- catchpole/eager.Apart -/
noncomputable def f27_I : PV × PV → List SV × Obs := fun x => ([.val 24 x.1, .val 24 x.2], [])
noncomputable def f27_D : List SV → Obs → Option (PV × PV)
  | [.val 24 p1, .val 24 p2], [] => some (p1, p2)
  | _, _ => none
theorem f27_D_ok (args : List SV) (B : Obs) (x : PV × PV) (h : f27_D args B = some x) : f27_I x = (args, B) := by
  unfold f27_D at h
  split at h
  · injection h with h; subst h; rfl
  · cases h
noncomputable def f27_O : Int → Out := (fun y => ([.int .i64 y], []))
noncomputable def f27_un : Out → Option (Int)
  | ([.int .i64 y0], []) => some y0
  | _ => none
theorem f27_un_ok (o : Out) (y : Int) (h : f27_un o = some y) : o = f27_O y := by
  unfold f27_un at h
  split at h
  · injection h with h; subst h; rfl
  · cases h
noncomputable def f27_msk : Nat → Option (List Nat) := fun key => bif key == 9 then some [5, 6, 16, 17] else none
noncomputable def f27_C (c26 : PV → ((List Int) → R) → R) : Oracle := orc 26 f26_D f26_O (fun x ret => c26 x (fun y0 => ret y0)) <| orc0
noncomputable def f27_E (k : Nat) (c26 : PV → ((List Int) → R) → R) : Env := { P := Try.prog, nilOwn := fun d => false, fldOwn := fun d i => false, ownPar := ownPars, ownRet := false, mask := f27_msk, fuel := k, C := f27_C c26 }
noncomputable def f27_code : Code := Try.f27.body.getD .skip
noncomputable def f27_cw1 : Code := subC f27_code [1, 1, 0, 1, 0, 0]
noncomputable def f27_hw1_0 (s3 : List Int) (s4 : List Int) (n5 : Int) (n7 : Int) : St := ⟨[.dead, .dead, .dead, .dead, .dead, .str s3, .str s4, .dead, .dead, .dead, .dead, .dead, .dead, .dead, .dead, .dead, .int .i64 n5, .int .i64 n7, .dead, .dead, .dead, .dead, .dead, .dead, .dead, .dead, .dead, .dead, .dead, .dead, .dead, .dead, .dead, .dead, .dead, .dead, .dead, .dead, .dead], []⟩
noncomputable def f27_w1A (k : Nat) (c26 : PV → ((List Int) → R) → R) (retF : Int → R) (s3 : List Int) (s4 : List Int) (n5 : Int) (n7 : Int) : R := loopM (f27_E k c26) f27_cw1 (kont (f27_E k c26) f27_code [1, 1, 0, 1, 0] (endK (f27_E k c26) Try.f27 [] f27_un retF)) k (f27_hw1_0 s3 s4 n5 n7)
noncomputable def f27_w1b0 (c26 : PV → ((List Int) → R) → R) (ret0 : Int → R) (next_w1_0 : Int → R) (s3 : List Int) (s4 : List Int) (n5 : Int) (n7 : Int) : R :=
  bif (decide (n7 < n5)) then
    bif (decide ((0 : Int) ≤ n7) && decide (n7 < (List.length s3 : Int))) then
      bif (decide ((0 : Int) ≤ n7) && decide (n7 < (List.length s4 : Int))) then
        bif (!(decide ((List.getD s3 (n7).toNat 0) = (List.getD s4 (n7).toNat 0)))) then
          ret0 n7
        else next_w1_0 (IntKind.wrap .i64 (n7 + (1 : Int)))
      else none
    else none
  else bif (decide ((List.length s3 : Int) = (List.length s4 : Int))) then
    ret0 (-1)
  else let n8 : Int := (if (List.length s4 : Int) < (List.length s3 : Int) then (List.length s4 : Int) else (List.length s3 : Int))
  ret0 n8

theorem f27_w1b0_mem (k : Nat) (c26 : PV → ((List Int) → R) → R) (retF : Int → R) (NX_w1 : St → R) (s3 : List Int) (s4 : List Int) (n5 : Int) (n7 : Int) : exec (f27_E k c26) f27_cw1 (purgeK (f27_E k c26) f27_cw1 (loopK NX_w1 (kont (f27_E k c26) f27_code [1, 1, 0, 1, 0] (endK (f27_E k c26) Try.f27 [] f27_un retF)))) (f27_hw1_0 s3 s4 n5 n7) = f27_w1b0 c26 (fun y0 => retF y0) (fun n7 => NX_w1 (f27_hw1_0 s3 s4 n5 n7)) s3 s4 n5 n7 := by kernel_rfl

noncomputable def f27_w1b0N (k : Nat) (c26 : PV → ((List Int) → R) → R) (ret0 : Int → R) (next_w1_0 : Int → R) (s3 : List Int) (s4 : List Int) (n5 : Int) (n7 : Int) : R :=
  f27_w1b0 c26 ret0 next_w1_0 s3 s4 n5 n7
theorem f27_w1b0_eq (k : Nat) (c26 : PV → ((List Int) → R) → R) (retF : Int → R) (NX_w1 : St → R) (s3 : List Int) (s4 : List Int) (n5 : Int) (n7 : Int) : exec (f27_E k c26) f27_cw1 (purgeK (f27_E k c26) f27_cw1 (loopK NX_w1 (kont (f27_E k c26) f27_code [1, 1, 0, 1, 0] (endK (f27_E k c26) Try.f27 [] f27_un retF)))) (f27_hw1_0 s3 s4 n5 n7) = f27_w1b0N k c26 (fun y0 => retF y0) (fun n7 => NX_w1 (f27_hw1_0 s3 s4 n5 n7)) s3 s4 n5 n7 :=
  (f27_w1b0_mem k c26 retF NX_w1 s3 s4 n5 n7)

noncomputable def f27_w1B (k : Nat) (c26 : PV → ((List Int) → R) → R) (ret0 : Int → R) (s3 : List Int) (s4 : List Int) (n5 : Int) (nx : Int → R) : Int → R := (fun s => f27_w1b0N k c26 ret0 (fun n7 => nx n7) s3 s4 n5 s)
noncomputable def f27_w1N (k : Nat) (c26 : PV → ((List Int) → R) → R) (ret0 : Int → R) (s3 : List Int) (s4 : List Int) (n5 : Int) (n7 : Int) : R := loopR (f27_w1B k c26 ret0 s3 s4 n5) k n7
theorem f27_w1_eq (k : Nat) (c26 : PV → ((List Int) → R) → R) (retF : Int → R) (s3 : List Int) (s4 : List Int) (n5 : Int) (n7 : Int) : f27_w1A k c26 retF s3 s4 n5 n7 = f27_w1N k c26 (fun y0 => retF y0) s3 s4 n5 n7 :=
  Eq.mp (by kernel_rfl) (loop_sim (E := (f27_E k c26)) (c := f27_cw1) (K := (kont (f27_E k c26) f27_code [1, 1, 0, 1, 0] (endK (f27_E k c26) Try.f27 [] f27_un retF))) (S := Int) (fun s => f27_hw1_0 s3 s4 n5 s) (f27_w1B k c26 (fun y0 => retF y0) s3 s4 n5) (fun NX s => by
    exact Eq.mp (by kernel_rfl) (f27_w1b0_eq k c26 retF NX s3 s4 n5 s)) k n7)

noncomputable def f27_e (c26 : PV → ((List Int) → R) → R) (ret0 : Int → R) (w1 : (List Int) → (List Int) → Int → Int → R) (p1 : PV) (p2 : PV) : R :=
  c26 p1 fun s3 =>
  c26 p2 fun s4 =>
  let n5 : Int := (if (List.length s4 : Int) < (List.length s3 : Int) then (List.length s4 : Int) else (List.length s3 : Int))
  w1 s3 s4 n5 0

theorem f27_e_mem (k : Nat) (c26 : PV → ((List Int) → R) → R) (retF : Int → R) (p1 : PV) (p2 : PV) : exec (f27_E k c26) f27_code (endK (f27_E k c26) Try.f27 [] f27_un retF) ⟨[.val 24 p1, .val 24 p2, .undef, .undef, .undef, .undef, .undef, .undef, .undef, .undef, .undef, .undef, .undef, .undef, .undef, .undef, .undef, .undef, .undef, .undef, .undef, .undef, .undef, .undef, .undef, .undef, .undef, .undef, .undef, .undef, .undef, .undef, .undef, .undef, .undef, .undef, .undef, .undef, .undef], []⟩ = f27_e c26 (fun y0 => retF y0) (fun s3 s4 n5 n7 => f27_w1A k c26 retF s3 s4 n5 n7) p1 p2 := by kernel_rfl

noncomputable def f27_N (k : Nat) (c26 : PV → ((List Int) → R) → R) (ret0 : Int → R) (p1 : PV) (p2 : PV) : R :=
  f27_e c26 ret0 (fun s3 s4 n5 n7 => f27_w1N k c26 ret0 s3 s4 n5 n7) p1 p2
theorem f27_eq (k : Nat) (c26 : PV → ((List Int) → R) → R) (retF : Int → R) (p1 : PV) (p2 : PV) : exec (f27_E k c26) f27_code (endK (f27_E k c26) Try.f27 [] f27_un retF) ⟨[.val 24 p1, .val 24 p2, .undef, .undef, .undef, .undef, .undef, .undef, .undef, .undef, .undef, .undef, .undef, .undef, .undef, .undef, .undef, .undef, .undef, .undef, .undef, .undef, .undef, .undef, .undef, .undef, .undef, .undef, .undef, .undef, .undef, .undef, .undef, .undef, .undef, .undef, .undef, .undef, .undef], []⟩ = f27_N k c26 (fun y0 => retF y0) p1 p2 :=
  (f27_e_mem k c26 retF p1 p2).trans (by rw [show (fun s3 s4 n5 n7 => f27_w1A k c26 retF s3 s4 n5 n7) = (fun s3 s4 n5 n7 => f27_w1N k c26 (fun y0 => retF y0) s3 s4 n5 n7) from funext fun s3 => funext fun s4 => funext fun n5 => funext fun n7 => f27_w1_eq k c26 retF s3 s4 n5 n7]; rfl)

noncomputable def G27 : Nat → PV → PV → (Int → R) → R
  | 0, _, _, _ => none
  | k + 1, p1, p2, ret0 => f27_N k (G26 k) ret0 p1 p2
theorem S27 : ∀ k, Snd Try.prog 27 f27_I f27_O (fun x ret => G27 k x.1 x.2 (fun y0 => ret y0))
  | 0 => snd_none
  | k + 1 => snd_step (E := f27_E k (G26 k)) rfl laidOut noNums (orc_ok (S26 k).o f26_D_ok orc0_ok) (f := 27) (fn := Try.f27) (code := f27_code) Try.func27 (by kernel_rfl) (drawsOk_of laidOut (orc_ok (S26 k).o f26_D_ok orc0_ok) mixed (by kernel_rfl)) f27_un f27_un_ok [] (fun _ => rfl)
      (fun x ret => f27_eq k (G26 k) ret x.1 x.2)

/- catchpole/catchpolelaw14.awake -/
noncomputable def f23_I : Unit → List SV × Obs := fun x => ([], [])
noncomputable def f23_D : List SV → Obs → Option (Unit)
  | [], [] => some ()
  | _, _ => none
theorem f23_D_ok (args : List SV) (B : Obs) (x : Unit) (h : f23_D args B = some x) : f23_I x = (args, B) := by
  unfold f23_D at h
  split at h
  · injection h with h; subst h; rfl
  · cases h
noncomputable def f23_O : Bool → Out := (fun y => ([.bool y], []))
noncomputable def f23_un : Out → Option (Bool)
  | ([.bool y0], []) => some y0
  | _ => none
theorem f23_un_ok (o : Out) (y : Bool) (h : f23_un o = some y) : o = f23_O y := by
  unfold f23_un at h
  split at h
  · injection h with h; subst h; rfl
  · cases h
noncomputable def f23_msk : Nat → Option (List Nat) := fun key =>  none
noncomputable def f23_C (c25 : PV → PV → (Int → R) → R) (c27 : PV → PV → (Int → R) → R) (c28 : PV → (PV → R) → R) (c29 : PV → (PV → R) → R) (c30 : Int → (PV → R) → R) : Oracle := orc 25 f25_D f25_O (fun x ret => c25 x.1 x.2 (fun y0 => ret y0)) <| orc 27 f27_D f27_O (fun x ret => c27 x.1 x.2 (fun y0 => ret y0)) <| orc 28 f28_D f28_O (fun x ret => c28 x (fun y0 => ret y0)) <| orc 29 f29_D f29_O (fun x ret => c29 x (fun y0 => ret y0)) <| orc 30 f30_D f30_O (fun x ret => c30 x (fun y0 => ret y0)) <| orc0
noncomputable def f23_E (k : Nat) (c25 : PV → PV → (Int → R) → R) (c27 : PV → PV → (Int → R) → R) (c28 : PV → (PV → R) → R) (c29 : PV → (PV → R) → R) (c30 : Int → (PV → R) → R) : Env := { P := Try.prog, nilOwn := fun d => false, fldOwn := fun d i => false, ownPar := ownPars, ownRet := false, mask := f23_msk, fuel := k, C := f23_C c25 c27 c28 c29 c30 }
noncomputable def f23_code : Code := Try.f23.body.getD .skip
noncomputable def f23_e (c25 : PV → PV → (Int → R) → R) (c27 : PV → PV → (Int → R) → R) (c28 : PV → (PV → R) → R) (c29 : PV → (PV → R) → R) (c30 : Int → (PV → R) → R) (ret0 : Bool → R) : R :=
  c30 97 fun p1 =>
  c28 p1 fun p2 =>
  c30 97 fun p3 =>
  c30 98 fun p4 =>
  c29 (PV.agg [(PV.int 3), (PV.int 0), (PV.list [p3, p4])]) fun p5 =>
  c25 p2 p5 fun n6 =>
  bif ((decide (n6 = (-1 : Int))) == true) then
    c30 97 fun p7 =>
    c28 p7 fun p8 =>
    c30 97 fun p9 =>
    c28 p9 fun p10 =>
    c27 p8 p10 fun n11 =>
    ret0 (decide (n11 = (-1 : Int)))
  else ret0 false

theorem f23_e_mem (k : Nat) (c25 : PV → PV → (Int → R) → R) (c27 : PV → PV → (Int → R) → R) (c28 : PV → (PV → R) → R) (c29 : PV → (PV → R) → R) (c30 : Int → (PV → R) → R) (retF : Bool → R) : exec (f23_E k c25 c27 c28 c29 c30) f23_code (endK (f23_E k c25 c27 c28 c29 c30) Try.f23 [] f23_un retF) ⟨[.undef, .undef, .undef, .undef, .undef, .undef, .undef, .undef, .undef, .undef, .undef, .undef, .undef, .undef, .undef, .undef, .undef, .undef], []⟩ = f23_e c25 c27 c28 c29 c30 (fun y0 => retF y0) := by kernel_rfl

noncomputable def f23_N (k : Nat) (c25 : PV → PV → (Int → R) → R) (c27 : PV → PV → (Int → R) → R) (c28 : PV → (PV → R) → R) (c29 : PV → (PV → R) → R) (c30 : Int → (PV → R) → R) (ret0 : Bool → R) : R :=
  f23_e c25 c27 c28 c29 c30 ret0
theorem f23_eq (k : Nat) (c25 : PV → PV → (Int → R) → R) (c27 : PV → PV → (Int → R) → R) (c28 : PV → (PV → R) → R) (c29 : PV → (PV → R) → R) (c30 : Int → (PV → R) → R) (retF : Bool → R) : exec (f23_E k c25 c27 c28 c29 c30) f23_code (endK (f23_E k c25 c27 c28 c29 c30) Try.f23 [] f23_un retF) ⟨[.undef, .undef, .undef, .undef, .undef, .undef, .undef, .undef, .undef, .undef, .undef, .undef, .undef, .undef, .undef, .undef, .undef, .undef], []⟩ = f23_N k c25 c27 c28 c29 c30 (fun y0 => retF y0) :=
  (f23_e_mem k c25 c27 c28 c29 c30 retF)

noncomputable def G23 : Nat → (Bool → R) → R
  | 0, _ => none
  | k + 1, ret0 => f23_N k (G25 k) (G27 k) (G28 k) (G29 k) (G30 k) ret0 
theorem S23 : ∀ k, Snd Try.prog 23 f23_I f23_O (fun x ret => G23 k (fun y0 => ret y0))
  | 0 => snd_none
  | k + 1 => snd_step (E := f23_E k (G25 k) (G27 k) (G28 k) (G29 k) (G30 k)) rfl laidOut noNums (orc_ok (S25 k).o f25_D_ok (orc_ok (S27 k).o f27_D_ok (orc_ok (S28 k).o f28_D_ok (orc_ok (S29 k).o f29_D_ok (orc_ok (S30 k).o f30_D_ok orc0_ok))))) (f := 23) (fn := Try.f23) (code := f23_code) Try.func23 (by kernel_rfl) (drawsOk_of laidOut (orc_ok (S25 k).o f25_D_ok (orc_ok (S27 k).o f27_D_ok (orc_ok (S28 k).o f28_D_ok (orc_ok (S29 k).o f29_D_ok (orc_ok (S30 k).o f30_D_ok orc0_ok))))) mixed (by kernel_rfl)) f23_un f23_un_ok [] (fun _ => rfl)
      (fun x ret => f23_eq k (G25 k) (G27 k) (G28 k) (G29 k) (G30 k) ret)

/- catchpole/catchpolelaw14.wide -/
noncomputable def f24_I : PV × Int → List SV × Obs := fun x => ([.val 24 x.1, .int .i64 x.2], [])
noncomputable def f24_D : List SV → Obs → Option (PV × Int)
  | [.val 24 p1, .int .i64 n2], [] => some (p1, n2)
  | _, _ => none
theorem f24_D_ok (args : List SV) (B : Obs) (x : PV × Int) (h : f24_D args B = some x) : f24_I x = (args, B) := by
  unfold f24_D at h
  split at h
  · injection h with h; subst h; rfl
  · cases h
noncomputable def f24_O : Bool → Out := (fun y => ([.bool y], []))
noncomputable def f24_un : Out → Option (Bool)
  | ([.bool y0], []) => some y0
  | _ => none
theorem f24_un_ok (o : Out) (y : Bool) (h : f24_un o = some y) : o = f24_O y := by
  unfold f24_un at h
  split at h
  · injection h with h; subst h; rfl
  · cases h
noncomputable def f24_msk : Nat → Option (List Nat) := fun key => bif key == 12 then some [1, 2, 5] else none
noncomputable def f24_C (c24 : PV → Int → (Bool → R) → R) : Oracle := orc 24 f24_D f24_O (fun x ret => c24 x.1 x.2 (fun y0 => ret y0)) <| orc0
noncomputable def f24_E (k : Nat) (c24 : PV → Int → (Bool → R) → R) : Env := { P := Try.prog, nilOwn := fun d => false, fldOwn := fun d i => false, ownPar := ownPars, ownRet := false, mask := f24_msk, fuel := k, C := f24_C c24 }
noncomputable def f24_code : Code := Try.f24.body.getD .skip
noncomputable def f24_cw1 : Code := subC f24_code [1, 1, 0, 1, 0, 0]
noncomputable def f24_hw1_0 (p1 : PV) (n2 : Int) (n4 : Int) : St := ⟨[.dead, .int .i64 n2, .ptr 2 [], .dead, .dead, .int .i64 n4, .dead, .dead, .dead, .dead, .dead, .dead, .dead, .dead, .dead, .dead, .dead, .dead, .dead, .dead, .dead, .dead, .dead, .dead, .dead, .dead, .dead, .dead, .dead], [(2, .box 24 (.val 24 p1))]⟩
noncomputable def f24_w1A (k : Nat) (c24 : PV → Int → (Bool → R) → R) (retF : Bool → R) (p1 : PV) (n2 : Int) (n4 : Int) : R := loopM (f24_E k c24) f24_cw1 (kont (f24_E k c24) f24_code [1, 1, 0, 1, 0] (endK (f24_E k c24) Try.f24 [] f24_un retF)) k (f24_hw1_0 p1 n2 n4)
noncomputable def f24_w1b0 (c24 : PV → Int → (Bool → R) → R) (ret0 : Bool → R) (next_w1_0 : Int → R) (p1 : PV) (n2 : Int) (n4 : Int) : R :=
  bif (decide (n4 < (List.length (PV.els (PV.fld p1 2)) : Int))) then
    bif (true && decide ((0 : Int) ≤ n4) && decide (n4 < (List.length (PV.els (PV.fld p1 2)) : Int))) then
      c24 (List.getD (PV.els (PV.fld p1 2)) (n4).toNat PV.nil) (IntKind.wrap .i64 (n2 - (1 : Int))) fun b5 =>
      bif b5 then
        ret0 true
      else next_w1_0 (IntKind.wrap .i64 (n4 + (1 : Int)))
    else none
  else ret0 false

theorem f24_w1b0_mem (k : Nat) (c24 : PV → Int → (Bool → R) → R) (retF : Bool → R) (NX_w1 : St → R) (p1 : PV) (n2 : Int) (n4 : Int) : exec (f24_E k c24) f24_cw1 (purgeK (f24_E k c24) f24_cw1 (loopK NX_w1 (kont (f24_E k c24) f24_code [1, 1, 0, 1, 0] (endK (f24_E k c24) Try.f24 [] f24_un retF)))) (f24_hw1_0 p1 n2 n4) = f24_w1b0 c24 (fun y0 => retF y0) (fun n4 => NX_w1 (f24_hw1_0 p1 n2 n4)) p1 n2 n4 := by kernel_rfl

noncomputable def f24_w1b0N (k : Nat) (c24 : PV → Int → (Bool → R) → R) (ret0 : Bool → R) (next_w1_0 : Int → R) (p1 : PV) (n2 : Int) (n4 : Int) : R :=
  f24_w1b0 c24 ret0 next_w1_0 p1 n2 n4
theorem f24_w1b0_eq (k : Nat) (c24 : PV → Int → (Bool → R) → R) (retF : Bool → R) (NX_w1 : St → R) (p1 : PV) (n2 : Int) (n4 : Int) : exec (f24_E k c24) f24_cw1 (purgeK (f24_E k c24) f24_cw1 (loopK NX_w1 (kont (f24_E k c24) f24_code [1, 1, 0, 1, 0] (endK (f24_E k c24) Try.f24 [] f24_un retF)))) (f24_hw1_0 p1 n2 n4) = f24_w1b0N k c24 (fun y0 => retF y0) (fun n4 => NX_w1 (f24_hw1_0 p1 n2 n4)) p1 n2 n4 :=
  (f24_w1b0_mem k c24 retF NX_w1 p1 n2 n4)

noncomputable def f24_w1B (k : Nat) (c24 : PV → Int → (Bool → R) → R) (ret0 : Bool → R) (p1 : PV) (n2 : Int) (nx : Int → R) : Int → R := (fun s => f24_w1b0N k c24 ret0 (fun n4 => nx n4) p1 n2 s)
noncomputable def f24_w1N (k : Nat) (c24 : PV → Int → (Bool → R) → R) (ret0 : Bool → R) (p1 : PV) (n2 : Int) (n4 : Int) : R := loopR (f24_w1B k c24 ret0 p1 n2) k n4
theorem f24_w1_eq (k : Nat) (c24 : PV → Int → (Bool → R) → R) (retF : Bool → R) (p1 : PV) (n2 : Int) (n4 : Int) : f24_w1A k c24 retF p1 n2 n4 = f24_w1N k c24 (fun y0 => retF y0) p1 n2 n4 :=
  Eq.mp (by kernel_rfl) (loop_sim (E := (f24_E k c24)) (c := f24_cw1) (K := (kont (f24_E k c24) f24_code [1, 1, 0, 1, 0] (endK (f24_E k c24) Try.f24 [] f24_un retF))) (S := Int) (fun s => f24_hw1_0 p1 n2 s) (f24_w1B k c24 (fun y0 => retF y0) p1 n2) (fun NX s => by
    exact Eq.mp (by kernel_rfl) (f24_w1b0_eq k c24 retF NX p1 n2 s)) k n4)

noncomputable def f24_e (c24 : PV → Int → (Bool → R) → R) (ret0 : Bool → R) (w1 : Int → R) (p1 : PV) (n2 : Int) : R :=
  bif ((decide (n2 < (1 : Int))) == false) then
    bif (decide ((30 : Int) < (List.length (PV.els (PV.fld p1 2)) : Int))) then
      ret0 true
    else w1 0
  else ret0 true

theorem f24_e_mem (k : Nat) (c24 : PV → Int → (Bool → R) → R) (retF : Bool → R) (p1 : PV) (n2 : Int) : exec (f24_E k c24) f24_code (endK (f24_E k c24) Try.f24 [] f24_un retF) ⟨[.val 24 p1, .int .i64 n2, .undef, .undef, .undef, .undef, .undef, .undef, .undef, .undef, .undef, .undef, .undef, .undef, .undef, .undef, .undef, .undef, .undef, .undef, .undef, .undef, .undef, .undef, .undef, .undef, .undef, .undef, .undef], []⟩ = f24_e c24 (fun y0 => retF y0) (fun n4 => f24_w1A k c24 retF p1 n2 n4) p1 n2 := by kernel_rfl

noncomputable def f24_N (k : Nat) (c24 : PV → Int → (Bool → R) → R) (ret0 : Bool → R) (p1 : PV) (n2 : Int) : R :=
  f24_e c24 ret0 (fun n4 => f24_w1N k c24 ret0 p1 n2 n4) p1 n2
theorem f24_eq (k : Nat) (c24 : PV → Int → (Bool → R) → R) (retF : Bool → R) (p1 : PV) (n2 : Int) : exec (f24_E k c24) f24_code (endK (f24_E k c24) Try.f24 [] f24_un retF) ⟨[.val 24 p1, .int .i64 n2, .undef, .undef, .undef, .undef, .undef, .undef, .undef, .undef, .undef, .undef, .undef, .undef, .undef, .undef, .undef, .undef, .undef, .undef, .undef, .undef, .undef, .undef, .undef, .undef, .undef, .undef, .undef], []⟩ = f24_N k c24 (fun y0 => retF y0) p1 n2 :=
  (f24_e_mem k c24 retF p1 n2).trans (by rw [show (fun n4 => f24_w1A k c24 retF p1 n2 n4) = (fun n4 => f24_w1N k c24 (fun y0 => retF y0) p1 n2 n4) from funext fun n4 => f24_w1_eq k c24 retF p1 n2 n4]; rfl)

noncomputable def G24 : Nat → PV → Int → (Bool → R) → R
  | 0, _, _, _ => none
  | k + 1, p1, n2, ret0 => f24_N k (G24 k) ret0 p1 n2
theorem S24 : ∀ k, Snd Try.prog 24 f24_I f24_O (fun x ret => G24 k x.1 x.2 (fun y0 => ret y0))
  | 0 => snd_none
  | k + 1 => snd_step (E := f24_E k (G24 k)) rfl laidOut noNums (orc_ok (S24 k).o f24_D_ok orc0_ok) (f := 24) (fn := Try.f24) (code := f24_code) Try.func24 (by kernel_rfl) (drawsOk_of laidOut (orc_ok (S24 k).o f24_D_ok orc0_ok) mixed (by kernel_rfl)) f24_un f24_un_ok [] (fun _ => rfl)
      (fun x ret => f24_eq k (G24 k) ret x.1 x.2)

/- catchpole/catchpolelaw14.EagerTotal -/
noncomputable def f8_I : PV × PV × PV → List SV × Obs := fun x => ([.val 24 x.1, .val 24 x.2.1, .val 24 x.2.2], [])
noncomputable def f8_D : List SV → Obs → Option (PV × PV × PV)
  | [.val 24 p1, .val 24 p2, .val 24 p3], [] => some (p1, p2, p3)
  | _, _ => none
theorem f8_D_ok (args : List SV) (B : Obs) (x : PV × PV × PV) (h : f8_D args B = some x) : f8_I x = (args, B) := by
  unfold f8_D at h
  split at h
  · injection h with h; subst h; rfl
  · cases h
noncomputable def f8_O : Bool → Out := (fun y => ([.bool y], []))
noncomputable def f8_un : Out → Option (Bool)
  | ([.bool y0], []) => some y0
  | _ => none
theorem f8_un_ok (o : Out) (y : Bool) (h : f8_un o = some y) : o = f8_O y := by
  unfold f8_un at h
  split at h
  · injection h with h; subst h; rfl
  · cases h
noncomputable def f8_msk : Nat → Option (List Nat) := fun key =>  none
noncomputable def f8_C (c23 : (Bool → R) → R) (c24 : PV → Int → (Bool → R) → R) (c25 : PV → PV → (Int → R) → R) (c26 : PV → ((List Int) → R) → R) (c27 : PV → PV → (Int → R) → R) : Oracle := orc 23 f23_D f23_O (fun x ret => c23 (fun y0 => ret y0)) <| orc 24 f24_D f24_O (fun x ret => c24 x.1 x.2 (fun y0 => ret y0)) <| orc 25 f25_D f25_O (fun x ret => c25 x.1 x.2 (fun y0 => ret y0)) <| orc 26 f26_D f26_O (fun x ret => c26 x (fun y0 => ret y0)) <| orc 27 f27_D f27_O (fun x ret => c27 x.1 x.2 (fun y0 => ret y0)) <| orc0
noncomputable def f8_E (k : Nat) (c23 : (Bool → R) → R) (c24 : PV → Int → (Bool → R) → R) (c25 : PV → PV → (Int → R) → R) (c26 : PV → ((List Int) → R) → R) (c27 : PV → PV → (Int → R) → R) : Env := { P := Try.prog, nilOwn := fun d => false, fldOwn := fun d i => false, ownPar := ownPars, ownRet := false, mask := f8_msk, fuel := k, C := f8_C c23 c24 c25 c26 c27 }
noncomputable def f8_code : Code := Try.f8.body.getD .skip
noncomputable def f8_e (c23 : (Bool → R) → R) (c24 : PV → Int → (Bool → R) → R) (c25 : PV → PV → (Int → R) → R) (c26 : PV → ((List Int) → R) → R) (c27 : PV → PV → (Int → R) → R) (ret0 : Bool → R) (p1 : PV) (p2 : PV) (p3 : PV) : R :=
  c23 fun b4 =>
  bif (!b4) then
    ret0 false
  else c24 p1 20 fun b5 =>
  bif (b5 == false) then
    c24 p2 20 fun b6 =>
    bif (b6 == false) then
      c24 p3 20 fun b7 =>
      bif b7 then
        ret0 true
      else c25 p1 p2 fun n8 =>
      c25 p2 p3 fun n9 =>
      c25 p1 p3 fun n10 =>
      c25 p2 p1 fun n11 =>
      bif ((decide (n11 = (IntKind.wrap .i64 (0 - n8)))) == true) then
        c26 p1 fun s12 =>
        c26 p2 fun s13 =>
        bif (((decide (n8 = (0 : Int))) == (decide ((s12 : List Int) = s13))) == true) then
          bif ((decide ((0 : Int) < n8)) == false) then
            bif ((decide ((0 : Int) < n9)) == false) then
              bif ((decide (n10 ≤ (0 : Int))) == true) then
                bif ((decide ((0 : Int) ≤ n8)) == false) then
                  bif ((decide ((0 : Int) < n9)) == false) then
                    bif ((decide (n10 < (0 : Int))) == true) then
                      c27 p1 p2 fun n14 =>
                      ret0 ((decide (n14 = (-1 : Int))) == (decide (n8 = (0 : Int))))
                    else ret0 false
                  else c27 p1 p2 fun n15 =>
                  ret0 ((decide (n15 = (-1 : Int))) == (decide (n8 = (0 : Int))))
                else c27 p1 p2 fun n16 =>
                ret0 ((decide (n16 = (-1 : Int))) == (decide (n8 = (0 : Int))))
              else ret0 false
            else bif ((decide ((0 : Int) ≤ n8)) == false) then
              bif ((decide ((0 : Int) < n9)) == false) then
                bif ((decide (n10 < (0 : Int))) == true) then
                  c27 p1 p2 fun n17 =>
                  ret0 ((decide (n17 = (-1 : Int))) == (decide (n8 = (0 : Int))))
                else ret0 false
              else c27 p1 p2 fun n18 =>
              ret0 ((decide (n18 = (-1 : Int))) == (decide (n8 = (0 : Int))))
            else c27 p1 p2 fun n19 =>
            ret0 ((decide (n19 = (-1 : Int))) == (decide (n8 = (0 : Int))))
          else bif ((decide ((0 : Int) ≤ n8)) == false) then
            bif ((decide ((0 : Int) < n9)) == false) then
              bif ((decide (n10 < (0 : Int))) == true) then
                c27 p1 p2 fun n20 =>
                ret0 ((decide (n20 = (-1 : Int))) == (decide (n8 = (0 : Int))))
              else ret0 false
            else c27 p1 p2 fun n21 =>
            ret0 ((decide (n21 = (-1 : Int))) == (decide (n8 = (0 : Int))))
          else c27 p1 p2 fun n22 =>
          ret0 ((decide (n22 = (-1 : Int))) == (decide (n8 = (0 : Int))))
        else ret0 false
      else ret0 false
    else ret0 true
  else ret0 true

theorem f8_e_mem (k : Nat) (c23 : (Bool → R) → R) (c24 : PV → Int → (Bool → R) → R) (c25 : PV → PV → (Int → R) → R) (c26 : PV → ((List Int) → R) → R) (c27 : PV → PV → (Int → R) → R) (retF : Bool → R) (p1 : PV) (p2 : PV) (p3 : PV) : exec (f8_E k c23 c24 c25 c26 c27) f8_code (endK (f8_E k c23 c24 c25 c26 c27) Try.f8 [] f8_un retF) ⟨[.val 24 p1, .val 24 p2, .val 24 p3, .undef, .undef, .undef, .undef, .undef, .undef, .undef, .undef, .undef, .undef, .undef, .undef, .undef, .undef, .undef, .undef, .undef, .undef, .undef, .undef, .undef, .undef, .undef, .undef, .undef, .undef, .undef, .undef, .undef, .undef, .undef, .undef, .undef, .undef, .undef, .undef, .undef, .undef, .undef, .undef, .undef, .undef, .undef, .undef, .undef, .undef, .undef, .undef, .undef, .undef, .undef, .undef, .undef, .undef, .undef, .undef, .undef, .undef, .undef, .undef, .undef, .undef, .undef, .undef, .undef, .undef, .undef, .undef, .undef, .undef, .undef, .undef, .undef, .undef, .undef, .undef, .undef], []⟩ = f8_e c23 c24 c25 c26 c27 (fun y0 => retF y0) p1 p2 p3 := by kernel_rfl

noncomputable def f8_N (k : Nat) (c23 : (Bool → R) → R) (c24 : PV → Int → (Bool → R) → R) (c25 : PV → PV → (Int → R) → R) (c26 : PV → ((List Int) → R) → R) (c27 : PV → PV → (Int → R) → R) (ret0 : Bool → R) (p1 : PV) (p2 : PV) (p3 : PV) : R :=
  f8_e c23 c24 c25 c26 c27 ret0 p1 p2 p3
theorem f8_eq (k : Nat) (c23 : (Bool → R) → R) (c24 : PV → Int → (Bool → R) → R) (c25 : PV → PV → (Int → R) → R) (c26 : PV → ((List Int) → R) → R) (c27 : PV → PV → (Int → R) → R) (retF : Bool → R) (p1 : PV) (p2 : PV) (p3 : PV) : exec (f8_E k c23 c24 c25 c26 c27) f8_code (endK (f8_E k c23 c24 c25 c26 c27) Try.f8 [] f8_un retF) ⟨[.val 24 p1, .val 24 p2, .val 24 p3, .undef, .undef, .undef, .undef, .undef, .undef, .undef, .undef, .undef, .undef, .undef, .undef, .undef, .undef, .undef, .undef, .undef, .undef, .undef, .undef, .undef, .undef, .undef, .undef, .undef, .undef, .undef, .undef, .undef, .undef, .undef, .undef, .undef, .undef, .undef, .undef, .undef, .undef, .undef, .undef, .undef, .undef, .undef, .undef, .undef, .undef, .undef, .undef, .undef, .undef, .undef, .undef, .undef, .undef, .undef, .undef, .undef, .undef, .undef, .undef, .undef, .undef, .undef, .undef, .undef, .undef, .undef, .undef, .undef, .undef, .undef, .undef, .undef, .undef, .undef, .undef, .undef], []⟩ = f8_N k c23 c24 c25 c26 c27 (fun y0 => retF y0) p1 p2 p3 :=
  (f8_e_mem k c23 c24 c25 c26 c27 retF p1 p2 p3)

noncomputable def G8 : Nat → PV → PV → PV → (Bool → R) → R
  | 0, _, _, _, _ => none
  | k + 1, p1, p2, p3, ret0 => f8_N k (G23 k) (G24 k) (G25 k) (G26 k) (G27 k) ret0 p1 p2 p3
theorem S8 : ∀ k, Snd Try.prog 8 f8_I f8_O (fun x ret => G8 k x.1 x.2.1 x.2.2 (fun y0 => ret y0))
  | 0 => snd_none
  | k + 1 => snd_step (E := f8_E k (G23 k) (G24 k) (G25 k) (G26 k) (G27 k)) rfl laidOut noNums (orc_ok (S23 k).o f23_D_ok (orc_ok (S24 k).o f24_D_ok (orc_ok (S25 k).o f25_D_ok (orc_ok (S26 k).o f26_D_ok (orc_ok (S27 k).o f27_D_ok orc0_ok))))) (f := 8) (fn := Try.f8) (code := f8_code) Try.func8 (by kernel_rfl) (drawsOk_of laidOut (orc_ok (S23 k).o f23_D_ok (orc_ok (S24 k).o f24_D_ok (orc_ok (S25 k).o f25_D_ok (orc_ok (S26 k).o f26_D_ok (orc_ok (S27 k).o f27_D_ok orc0_ok))))) mixed (by kernel_rfl)) f8_un f8_un_ok [] (fun _ => rfl)
      (fun x ret => f8_eq k (G23 k) (G24 k) (G25 k) (G26 k) (G27 k) ret x.1 x.2.1 x.2.2)

/- catchpole/catchpolelaw14.EagerParts -/
noncomputable def f9_I : PV × PV × PV → List SV × Obs := fun x => ([.val 24 x.1, .val 24 x.2.1, .val 24 x.2.2], [])
noncomputable def f9_D : List SV → Obs → Option (PV × PV × PV)
  | [.val 24 p1, .val 24 p2, .val 24 p3], [] => some (p1, p2, p3)
  | _, _ => none
theorem f9_D_ok (args : List SV) (B : Obs) (x : PV × PV × PV) (h : f9_D args B = some x) : f9_I x = (args, B) := by
  unfold f9_D at h
  split at h
  · injection h with h; subst h; rfl
  · cases h
noncomputable def f9_O : Bool → Out := (fun y => ([.bool y], []))
noncomputable def f9_un : Out → Option (Bool)
  | ([.bool y0], []) => some y0
  | _ => none
theorem f9_un_ok (o : Out) (y : Bool) (h : f9_un o = some y) : o = f9_O y := by
  unfold f9_un at h
  split at h
  · injection h with h; subst h; rfl
  · cases h
noncomputable def f9_msk : Nat → Option (List Nat) := fun key =>  none
noncomputable def f9_C (c23 : (Bool → R) → R) (c24 : PV → Int → (Bool → R) → R) (c25 : PV → PV → (Int → R) → R) (c26 : PV → ((List Int) → R) → R) (c27 : PV → PV → (Int → R) → R) (c28 : PV → (PV → R) → R) (c29 : PV → (PV → R) → R) : Oracle := orc 23 f23_D f23_O (fun x ret => c23 (fun y0 => ret y0)) <| orc 24 f24_D f24_O (fun x ret => c24 x.1 x.2 (fun y0 => ret y0)) <| orc 25 f25_D f25_O (fun x ret => c25 x.1 x.2 (fun y0 => ret y0)) <| orc 26 f26_D f26_O (fun x ret => c26 x (fun y0 => ret y0)) <| orc 27 f27_D f27_O (fun x ret => c27 x.1 x.2 (fun y0 => ret y0)) <| orc 28 f28_D f28_O (fun x ret => c28 x (fun y0 => ret y0)) <| orc 29 f29_D f29_O (fun x ret => c29 x (fun y0 => ret y0)) <| orc0
noncomputable def f9_E (k : Nat) (c23 : (Bool → R) → R) (c24 : PV → Int → (Bool → R) → R) (c25 : PV → PV → (Int → R) → R) (c26 : PV → ((List Int) → R) → R) (c27 : PV → PV → (Int → R) → R) (c28 : PV → (PV → R) → R) (c29 : PV → (PV → R) → R) : Env := { P := Try.prog, nilOwn := fun d => false, fldOwn := fun d i => false, ownPar := ownPars, ownRet := false, mask := f9_msk, fuel := k, C := f9_C c23 c24 c25 c26 c27 c28 c29 }
noncomputable def f9_code : Code := Try.f9.body.getD .skip
noncomputable def f9_e (c23 : (Bool → R) → R) (c24 : PV → Int → (Bool → R) → R) (c25 : PV → PV → (Int → R) → R) (c26 : PV → ((List Int) → R) → R) (c27 : PV → PV → (Int → R) → R) (c28 : PV → (PV → R) → R) (c29 : PV → (PV → R) → R) (ret0 : Bool → R) (p1 : PV) (p2 : PV) (p3 : PV) : R :=
  c23 fun b4 =>
  bif (!b4) then
    ret0 false
  else c24 p1 20 fun b5 =>
  bif (b5 == false) then
    c24 p2 20 fun b6 =>
    bif (b6 == false) then
      c24 p3 20 fun b7 =>
      bif b7 then
        ret0 true
      else c25 p1 p2 fun n8 =>
      c26 p1 fun s9 =>
      c26 p2 fun s10 =>
      c27 p1 p2 fun n11 =>
      c28 p1 fun p12 =>
      c28 p2 fun p13 =>
      c25 p12 p13 fun n14 =>
      bif ((decide (n14 = n8)) == true) then
        c25 (PV.agg [(PV.int 3), (PV.int 0), (PV.list [p3, p1])]) (PV.agg [(PV.int 3), (PV.int 0), (PV.list [p3, p2])]) fun n15 =>
        bif ((decide (n15 = n8)) == true) then
          c28 p1 fun p16 =>
          c29 p2 fun p17 =>
          c25 p16 p17 fun n18 =>
          bif ((decide (n18 = (-1 : Int))) == true) then
            bif (((decide (n11 = (-1 : Int))) == (decide ((s9 : List Int) = s10))) == true) then
              bif ((decide (n11 ≤ (List.length s9 : Int))) == true) then
                ret0 (decide (n11 ≤ (List.length s10 : Int)))
              else ret0 false
            else ret0 false
          else ret0 false
        else ret0 false
      else ret0 false
    else ret0 true
  else ret0 true

theorem f9_e_mem (k : Nat) (c23 : (Bool → R) → R) (c24 : PV → Int → (Bool → R) → R) (c25 : PV → PV → (Int → R) → R) (c26 : PV → ((List Int) → R) → R) (c27 : PV → PV → (Int → R) → R) (c28 : PV → (PV → R) → R) (c29 : PV → (PV → R) → R) (retF : Bool → R) (p1 : PV) (p2 : PV) (p3 : PV) : exec (f9_E k c23 c24 c25 c26 c27 c28 c29) f9_code (endK (f9_E k c23 c24 c25 c26 c27 c28 c29) Try.f9 [] f9_un retF) ⟨[.val 24 p1, .val 24 p2, .val 24 p3, .undef, .undef, .undef, .undef, .undef, .undef, .undef, .undef, .undef, .undef, .undef, .undef, .undef, .undef, .undef, .undef, .undef, .undef, .undef, .undef, .undef, .undef, .undef, .undef, .undef, .undef, .undef, .undef, .undef, .undef, .undef, .undef, .undef, .undef, .undef, .undef, .undef, .undef, .undef, .undef, .undef, .undef, .undef, .undef, .undef, .undef, .undef, .undef, .undef, .undef, .undef, .undef, .undef, .undef, .undef, .undef, .undef, .undef, .undef, .undef, .undef, .undef, .undef, .undef, .undef, .undef, .undef, .undef, .undef, .undef, .undef, .undef, .undef, .undef, .undef, .undef, .undef, .undef, .undef, .undef, .undef, .undef, .undef, .undef, .undef, .undef], []⟩ = f9_e c23 c24 c25 c26 c27 c28 c29 (fun y0 => retF y0) p1 p2 p3 := by kernel_rfl

noncomputable def f9_N (k : Nat) (c23 : (Bool → R) → R) (c24 : PV → Int → (Bool → R) → R) (c25 : PV → PV → (Int → R) → R) (c26 : PV → ((List Int) → R) → R) (c27 : PV → PV → (Int → R) → R) (c28 : PV → (PV → R) → R) (c29 : PV → (PV → R) → R) (ret0 : Bool → R) (p1 : PV) (p2 : PV) (p3 : PV) : R :=
  f9_e c23 c24 c25 c26 c27 c28 c29 ret0 p1 p2 p3
theorem f9_eq (k : Nat) (c23 : (Bool → R) → R) (c24 : PV → Int → (Bool → R) → R) (c25 : PV → PV → (Int → R) → R) (c26 : PV → ((List Int) → R) → R) (c27 : PV → PV → (Int → R) → R) (c28 : PV → (PV → R) → R) (c29 : PV → (PV → R) → R) (retF : Bool → R) (p1 : PV) (p2 : PV) (p3 : PV) : exec (f9_E k c23 c24 c25 c26 c27 c28 c29) f9_code (endK (f9_E k c23 c24 c25 c26 c27 c28 c29) Try.f9 [] f9_un retF) ⟨[.val 24 p1, .val 24 p2, .val 24 p3, .undef, .undef, .undef, .undef, .undef, .undef, .undef, .undef, .undef, .undef, .undef, .undef, .undef, .undef, .undef, .undef, .undef, .undef, .undef, .undef, .undef, .undef, .undef, .undef, .undef, .undef, .undef, .undef, .undef, .undef, .undef, .undef, .undef, .undef, .undef, .undef, .undef, .undef, .undef, .undef, .undef, .undef, .undef, .undef, .undef, .undef, .undef, .undef, .undef, .undef, .undef, .undef, .undef, .undef, .undef, .undef, .undef, .undef, .undef, .undef, .undef, .undef, .undef, .undef, .undef, .undef, .undef, .undef, .undef, .undef, .undef, .undef, .undef, .undef, .undef, .undef, .undef, .undef, .undef, .undef, .undef, .undef, .undef, .undef, .undef, .undef], []⟩ = f9_N k c23 c24 c25 c26 c27 c28 c29 (fun y0 => retF y0) p1 p2 p3 :=
  (f9_e_mem k c23 c24 c25 c26 c27 c28 c29 retF p1 p2 p3)

noncomputable def G9 : Nat → PV → PV → PV → (Bool → R) → R
  | 0, _, _, _, _ => none
  | k + 1, p1, p2, p3, ret0 => f9_N k (G23 k) (G24 k) (G25 k) (G26 k) (G27 k) (G28 k) (G29 k) ret0 p1 p2 p3
theorem S9 : ∀ k, Snd Try.prog 9 f9_I f9_O (fun x ret => G9 k x.1 x.2.1 x.2.2 (fun y0 => ret y0))
  | 0 => snd_none
  | k + 1 => snd_step (E := f9_E k (G23 k) (G24 k) (G25 k) (G26 k) (G27 k) (G28 k) (G29 k)) rfl laidOut noNums (orc_ok (S23 k).o f23_D_ok (orc_ok (S24 k).o f24_D_ok (orc_ok (S25 k).o f25_D_ok (orc_ok (S26 k).o f26_D_ok (orc_ok (S27 k).o f27_D_ok (orc_ok (S28 k).o f28_D_ok (orc_ok (S29 k).o f29_D_ok orc0_ok))))))) (f := 9) (fn := Try.f9) (code := f9_code) Try.func9 (by kernel_rfl) (drawsOk_of laidOut (orc_ok (S23 k).o f23_D_ok (orc_ok (S24 k).o f24_D_ok (orc_ok (S25 k).o f25_D_ok (orc_ok (S26 k).o f26_D_ok (orc_ok (S27 k).o f27_D_ok (orc_ok (S28 k).o f28_D_ok (orc_ok (S29 k).o f29_D_ok orc0_ok))))))) mixed (by kernel_rfl)) f9_un f9_un_ok [] (fun _ => rfl)
      (fun x ret => f9_eq k (G23 k) (G24 k) (G25 k) (G26 k) (G27 k) (G28 k) (G29 k) ret x.1 x.2.1 x.2.2)

/- catchpole/eager.Best -/
noncomputable def f31_I : PV → List SV × Obs := fun x => ([.val 22 x], [])
noncomputable def f31_D : List SV → Obs → Option (PV)
  | [.val 22 p1], [] => some p1
  | _, _ => none
theorem f31_D_ok (args : List SV) (B : Obs) (x : PV) (h : f31_D args B = some x) : f31_I x = (args, B) := by
  unfold f31_D at h
  split at h
  · injection h with h; subst h; rfl
  · cases h
noncomputable def f31_O : Int × Bool → Out := (fun y => ([.int .i64 y.1, .bool y.2], []))
noncomputable def f31_un : Out → Option (Int × Bool)
  | ([.int .i64 y0, .bool y1], []) => some (y0, y1)
  | _ => none
theorem f31_un_ok (o : Out) (y : Int × Bool) (h : f31_un o = some y) : o = f31_O y := by
  unfold f31_un at h
  split at h
  · injection h with h; subst h; rfl
  · cases h
noncomputable def f31_msk : Nat → Option (List Nat) := fun key => bif key == 9 then some [0, 4, 7, 8, 9] else none
noncomputable def f31_C (c25 : PV → PV → (Int → R) → R) : Oracle := orc 25 f25_D f25_O (fun x ret => c25 x.1 x.2 (fun y0 => ret y0)) <| orc0
noncomputable def f31_E (k : Nat) (c25 : PV → PV → (Int → R) → R) : Env := { P := Try.prog, nilOwn := fun d => false, fldOwn := fun d i => false, ownPar := ownPars, ownRet := false, mask := f31_msk, fuel := k, C := f31_C c25 }
noncomputable def f31_code : Code := Try.f31.body.getD .skip
noncomputable def f31_cw1 : Code := subC f31_code [1, 1, 0, 1, 0, 0]
noncomputable def f31_hw1_0 (p1 : PV) (n5 : Int) (n6 : Int) : St := ⟨[.val 22 p1, .dead, .dead, .dead, .int .i64 n5, .dead, .dead, .val 22 p1, .int .i64 (List.length (PV.els p1) : Int), .int .i64 n6, .dead, .dead, .dead, .dead, .dead, .dead, .dead, .dead, .dead, .dead, .dead, .dead, .dead, .dead, .dead, .dead, .dead], []⟩
noncomputable def f31_w1A (k : Nat) (c25 : PV → PV → (Int → R) → R) (retF : Int × Bool → R) (p1 : PV) (n5 : Int) (n6 : Int) : R := loopM (f31_E k c25) f31_cw1 (kont (f31_E k c25) f31_code [1, 1, 0, 1, 0] (endK (f31_E k c25) Try.f31 [] f31_un retF)) k (f31_hw1_0 p1 n5 n6)
noncomputable def f31_w1b0 (c25 : PV → PV → (Int → R) → R) (ret0 : Int → Bool → R) (next_w1_0 : Int → Int → R) (p1 : PV) (n5 : Int) (n6 : Int) : R :=
  bif (decide (n6 < (List.length (PV.els p1) : Int))) then
    bif (true && decide ((0 : Int) ≤ n6) && decide (n6 < (List.length (PV.els p1) : Int))) then
      bif (true && decide ((0 : Int) ≤ n5) && decide (n5 < (List.length (PV.els p1) : Int))) then
        c25 (List.getD (PV.els p1) (n6).toNat PV.nil) (List.getD (PV.els p1) (n5).toNat PV.nil) fun n7 =>
        bif (decide (n7 < (0 : Int))) then
          next_w1_0 n6 (IntKind.wrap .i64 (n6 + (1 : Int)))
        else next_w1_0 n5 (IntKind.wrap .i64 (n6 + (1 : Int)))
      else none
    else none
  else ret0 n5 (decide ((0 : Int) < (List.length (PV.els p1) : Int)))

theorem f31_w1b0_mem (k : Nat) (c25 : PV → PV → (Int → R) → R) (retF : Int × Bool → R) (NX_w1 : St → R) (p1 : PV) (n5 : Int) (n6 : Int) : exec (f31_E k c25) f31_cw1 (purgeK (f31_E k c25) f31_cw1 (loopK NX_w1 (kont (f31_E k c25) f31_code [1, 1, 0, 1, 0] (endK (f31_E k c25) Try.f31 [] f31_un retF)))) (f31_hw1_0 p1 n5 n6) = f31_w1b0 c25 (fun y0 y1 => retF (y0, y1)) (fun n5 n6 => NX_w1 (f31_hw1_0 p1 n5 n6)) p1 n5 n6 := by kernel_rfl

noncomputable def f31_w1b0N (k : Nat) (c25 : PV → PV → (Int → R) → R) (ret0 : Int → Bool → R) (next_w1_0 : Int → Int → R) (p1 : PV) (n5 : Int) (n6 : Int) : R :=
  f31_w1b0 c25 ret0 next_w1_0 p1 n5 n6
theorem f31_w1b0_eq (k : Nat) (c25 : PV → PV → (Int → R) → R) (retF : Int × Bool → R) (NX_w1 : St → R) (p1 : PV) (n5 : Int) (n6 : Int) : exec (f31_E k c25) f31_cw1 (purgeK (f31_E k c25) f31_cw1 (loopK NX_w1 (kont (f31_E k c25) f31_code [1, 1, 0, 1, 0] (endK (f31_E k c25) Try.f31 [] f31_un retF)))) (f31_hw1_0 p1 n5 n6) = f31_w1b0N k c25 (fun y0 y1 => retF (y0, y1)) (fun n5 n6 => NX_w1 (f31_hw1_0 p1 n5 n6)) p1 n5 n6 :=
  (f31_w1b0_mem k c25 retF NX_w1 p1 n5 n6)

noncomputable def f31_w1B (k : Nat) (c25 : PV → PV → (Int → R) → R) (ret0 : Int → Bool → R) (p1 : PV) (nx : Int × Int → R) : Int × Int → R := (fun s => f31_w1b0N k c25 ret0 (fun n5 n6 => nx (n5, n6)) p1 s.1 s.2)
noncomputable def f31_w1N (k : Nat) (c25 : PV → PV → (Int → R) → R) (ret0 : Int → Bool → R) (p1 : PV) (n5 : Int) (n6 : Int) : R := loopR (f31_w1B k c25 ret0 p1) k (n5, n6)
theorem f31_w1_eq (k : Nat) (c25 : PV → PV → (Int → R) → R) (retF : Int × Bool → R) (p1 : PV) (n5 : Int) (n6 : Int) : f31_w1A k c25 retF p1 n5 n6 = f31_w1N k c25 (fun y0 y1 => retF (y0, y1)) p1 n5 n6 :=
  Eq.mp (by kernel_rfl) (loop_sim (E := (f31_E k c25)) (c := f31_cw1) (K := (kont (f31_E k c25) f31_code [1, 1, 0, 1, 0] (endK (f31_E k c25) Try.f31 [] f31_un retF))) (S := Int × Int) (fun s => f31_hw1_0 p1 s.1 s.2) (f31_w1B k c25 (fun y0 y1 => retF (y0, y1)) p1) (fun NX s => by
    exact Eq.mp (by kernel_rfl) (f31_w1b0_eq k c25 retF NX p1 s.1 s.2)) k (n5, n6))

noncomputable def f31_e (c25 : PV → PV → (Int → R) → R) (ret0 : Int → Bool → R) (w1 : Int → Int → R) (p1 : PV) : R :=
  w1 0 0

theorem f31_e_mem (k : Nat) (c25 : PV → PV → (Int → R) → R) (retF : Int × Bool → R) (p1 : PV) : exec (f31_E k c25) f31_code (endK (f31_E k c25) Try.f31 [] f31_un retF) ⟨[.val 22 p1, .undef, .undef, .undef, .undef, .undef, .undef, .undef, .undef, .undef, .undef, .undef, .undef, .undef, .undef, .undef, .undef, .undef, .undef, .undef, .undef, .undef, .undef, .undef, .undef, .undef, .undef], []⟩ = f31_e c25 (fun y0 y1 => retF (y0, y1)) (fun n5 n6 => f31_w1A k c25 retF p1 n5 n6) p1 := by kernel_rfl

noncomputable def f31_N (k : Nat) (c25 : PV → PV → (Int → R) → R) (ret0 : Int → Bool → R) (p1 : PV) : R :=
  f31_e c25 ret0 (fun n5 n6 => f31_w1N k c25 ret0 p1 n5 n6) p1
theorem f31_eq (k : Nat) (c25 : PV → PV → (Int → R) → R) (retF : Int × Bool → R) (p1 : PV) : exec (f31_E k c25) f31_code (endK (f31_E k c25) Try.f31 [] f31_un retF) ⟨[.val 22 p1, .undef, .undef, .undef, .undef, .undef, .undef, .undef, .undef, .undef, .undef, .undef, .undef, .undef, .undef, .undef, .undef, .undef, .undef, .undef, .undef, .undef, .undef, .undef, .undef, .undef, .undef], []⟩ = f31_N k c25 (fun y0 y1 => retF (y0, y1)) p1 :=
  (f31_e_mem k c25 retF p1).trans (by rw [show (fun n5 n6 => f31_w1A k c25 retF p1 n5 n6) = (fun n5 n6 => f31_w1N k c25 (fun y0 y1 => retF (y0, y1)) p1 n5 n6) from funext fun n5 => funext fun n6 => f31_w1_eq k c25 retF p1 n5 n6]; rfl)

noncomputable def G31 : Nat → PV → (Int → Bool → R) → R
  | 0, _, _ => none
  | k + 1, p1, ret0 => f31_N k (G25 k) ret0 p1
theorem S31 : ∀ k, Snd Try.prog 31 f31_I f31_O (fun x ret => G31 k x (fun y0 y1 => ret (y0, y1)))
  | 0 => snd_none
  | k + 1 => snd_step (E := f31_E k (G25 k)) rfl laidOut noNums (orc_ok (S25 k).o f25_D_ok orc0_ok) (f := 31) (fn := Try.f31) (code := f31_code) Try.func31 (by kernel_rfl) (drawsOk_of laidOut (orc_ok (S25 k).o f25_D_ok orc0_ok) mixed (by kernel_rfl)) f31_un f31_un_ok [] (fun _ => rfl)
      (fun x ret => f31_eq k (G25 k) ret x)

/- catchpole/catchpolelaw14.EagerKnown -/
noncomputable def f10_I : Unit → List SV × Obs := fun x => ([], [])
noncomputable def f10_D : List SV → Obs → Option (Unit)
  | [], [] => some ()
  | _, _ => none
theorem f10_D_ok (args : List SV) (B : Obs) (x : Unit) (h : f10_D args B = some x) : f10_I x = (args, B) := by
  unfold f10_D at h
  split at h
  · injection h with h; subst h; rfl
  · cases h
noncomputable def f10_O : Bool → Out := (fun y => ([.bool y], []))
noncomputable def f10_un : Out → Option (Bool)
  | ([.bool y0], []) => some y0
  | _ => none
theorem f10_un_ok (o : Out) (y : Bool) (h : f10_un o = some y) : o = f10_O y := by
  unfold f10_un at h
  split at h
  · injection h with h; subst h; rfl
  · cases h
noncomputable def f10_msk : Nat → Option (List Nat) := fun key =>  none
noncomputable def f10_C (c23 : (Bool → R) → R) (c25 : PV → PV → (Int → R) → R) (c27 : PV → PV → (Int → R) → R) (c28 : PV → (PV → R) → R) (c29 : PV → (PV → R) → R) (c30 : Int → (PV → R) → R) (c31 : PV → (Int → Bool → R) → R) : Oracle := orc 23 f23_D f23_O (fun x ret => c23 (fun y0 => ret y0)) <| orc 25 f25_D f25_O (fun x ret => c25 x.1 x.2 (fun y0 => ret y0)) <| orc 27 f27_D f27_O (fun x ret => c27 x.1 x.2 (fun y0 => ret y0)) <| orc 28 f28_D f28_O (fun x ret => c28 x (fun y0 => ret y0)) <| orc 29 f29_D f29_O (fun x ret => c29 x (fun y0 => ret y0)) <| orc 30 f30_D f30_O (fun x ret => c30 x (fun y0 => ret y0)) <| orc 31 f31_D f31_O (fun x ret => c31 x (fun y0 y1 => ret (y0, y1))) <| orc0
noncomputable def f10_E (k : Nat) (c23 : (Bool → R) → R) (c25 : PV → PV → (Int → R) → R) (c27 : PV → PV → (Int → R) → R) (c28 : PV → (PV → R) → R) (c29 : PV → (PV → R) → R) (c30 : Int → (PV → R) → R) (c31 : PV → (Int → Bool → R) → R) : Env := { P := Try.prog, nilOwn := fun d => false, fldOwn := fun d i => false, ownPar := ownPars, ownRet := false, mask := f10_msk, fuel := k, C := f10_C c23 c25 c27 c28 c29 c30 c31 }
noncomputable def f10_code : Code := Try.f10.body.getD .skip
noncomputable def f10_e (c23 : (Bool → R) → R) (c25 : PV → PV → (Int → R) → R) (c27 : PV → PV → (Int → R) → R) (c28 : PV → (PV → R) → R) (c29 : PV → (PV → R) → R) (c30 : Int → (PV → R) → R) (c31 : PV → (Int → Bool → R) → R) (ret0 : Bool → R) : R :=
  c23 fun b1 =>
  bif (!b1) then
    ret0 false
  else c30 97 fun p2 =>
  c29 (PV.agg [(PV.int 6), (PV.int 0), (PV.list [p2])]) fun p3 =>
  c31 (PV.list [(PV.agg [(PV.int 6), (PV.int 0), (PV.list [])]), (PV.agg [(PV.int 6), (PV.int 0), (PV.list [p2])]), p3, (PV.agg [(PV.int 6), (PV.int 0), (PV.list [p2])])]) fun n4 b5 =>
  c31 (PV.list []) fun n6 b7 =>
  c25 (PV.agg [(PV.int 6), (PV.int 0), (PV.list [p2])]) (PV.agg [(PV.int 6), (PV.int 0), (PV.list [])]) fun n8 =>
  bif ((decide (n8 = (-1 : Int))) == true) then
    c25 (PV.agg [(PV.int 6), (PV.int 0), (PV.list [])]) (PV.agg [(PV.int 6), (PV.int 0), (PV.list [p2])]) fun n9 =>
    bif ((decide (n9 = (1 : Int))) == true) then
      c30 97 fun p10 =>
      c30 98 fun p11 =>
      c25 p10 p11 fun n12 =>
      bif ((decide (n12 = (0 : Int))) == true) then
        c30 97 fun p13 =>
        c25 p13 (PV.agg [(PV.int 6), (PV.int 0), (PV.list [])]) fun n14 =>
        bif ((decide (n14 = (-1 : Int))) == true) then
          bif (b5 == true) then
            bif ((decide (n4 = (1 : Int))) == true) then
              bif ((!b7) == true) then
                c27 (PV.agg [(PV.int 6), (PV.int 0), (PV.list [p2])]) (PV.agg [(PV.int 6), (PV.int 0), (PV.list [])]) fun n15 =>
                bif ((decide (n15 = (0 : Int))) == true) then
                  c30 97 fun p16 =>
                  c28 p16 fun p17 =>
                  c28 p17 fun p18 =>
                  c30 97 fun p19 =>
                  c29 p19 fun p20 =>
                  c28 p20 fun p21 =>
                  c27 p18 p21 fun n22 =>
                  bif ((decide (n22 = (1 : Int))) == true) then
                    c30 97 fun p23 =>
                    c28 p23 fun p24 =>
                    c28 (PV.agg [(PV.int 6), (PV.int 0), (PV.list [])]) fun p25 =>
                    c27 p24 p25 fun n26 =>
                    bif ((decide (n26 = (1 : Int))) == true) then
                      c30 97 fun p27 =>
                      c27 p27 (PV.agg [(PV.int 6), (PV.int 0), (PV.list [])]) fun n28 =>
                      ret0 (decide (n28 = (0 : Int)))
                    else ret0 false
                  else ret0 false
                else ret0 false
              else ret0 false
            else ret0 false
          else ret0 false
        else ret0 false
      else ret0 false
    else ret0 false
  else ret0 false

theorem f10_e_mem (k : Nat) (c23 : (Bool → R) → R) (c25 : PV → PV → (Int → R) → R) (c27 : PV → PV → (Int → R) → R) (c28 : PV → (PV → R) → R) (c29 : PV → (PV → R) → R) (c30 : Int → (PV → R) → R) (c31 : PV → (Int → Bool → R) → R) (retF : Bool → R) : exec (f10_E k c23 c25 c27 c28 c29 c30 c31) f10_code (endK (f10_E k c23 c25 c27 c28 c29 c30 c31) Try.f10 [] f10_un retF) ⟨[.undef, .undef, .undef, .undef, .undef, .undef, .undef, .undef, .undef, .undef, .undef, .undef, .undef, .undef, .undef, .undef, .undef, .undef, .undef, .undef, .undef, .undef, .undef, .undef, .undef, .undef, .undef, .undef, .undef, .undef, .undef, .undef, .undef, .undef, .undef, .undef, .undef, .undef, .undef, .undef, .undef, .undef, .undef, .undef, .undef, .undef, .undef, .undef, .undef, .undef, .undef, .undef, .undef, .undef, .undef, .undef, .undef, .undef, .undef, .undef, .undef, .undef, .undef, .undef, .undef, .undef, .undef, .undef, .undef, .undef, .undef, .undef, .undef, .undef, .undef, .undef, .undef, .undef, .undef, .undef, .undef, .undef, .undef, .undef, .undef, .undef, .undef, .undef, .undef, .undef], []⟩ = f10_e c23 c25 c27 c28 c29 c30 c31 (fun y0 => retF y0) := by kernel_rfl

noncomputable def f10_N (k : Nat) (c23 : (Bool → R) → R) (c25 : PV → PV → (Int → R) → R) (c27 : PV → PV → (Int → R) → R) (c28 : PV → (PV → R) → R) (c29 : PV → (PV → R) → R) (c30 : Int → (PV → R) → R) (c31 : PV → (Int → Bool → R) → R) (ret0 : Bool → R) : R :=
  f10_e c23 c25 c27 c28 c29 c30 c31 ret0
theorem f10_eq (k : Nat) (c23 : (Bool → R) → R) (c25 : PV → PV → (Int → R) → R) (c27 : PV → PV → (Int → R) → R) (c28 : PV → (PV → R) → R) (c29 : PV → (PV → R) → R) (c30 : Int → (PV → R) → R) (c31 : PV → (Int → Bool → R) → R) (retF : Bool → R) : exec (f10_E k c23 c25 c27 c28 c29 c30 c31) f10_code (endK (f10_E k c23 c25 c27 c28 c29 c30 c31) Try.f10 [] f10_un retF) ⟨[.undef, .undef, .undef, .undef, .undef, .undef, .undef, .undef, .undef, .undef, .undef, .undef, .undef, .undef, .undef, .undef, .undef, .undef, .undef, .undef, .undef, .undef, .undef, .undef, .undef, .undef, .undef, .undef, .undef, .undef, .undef, .undef, .undef, .undef, .undef, .undef, .undef, .undef, .undef, .undef, .undef, .undef, .undef, .undef, .undef, .undef, .undef, .undef, .undef, .undef, .undef, .undef, .undef, .undef, .undef, .undef, .undef, .undef, .undef, .undef, .undef, .undef, .undef, .undef, .undef, .undef, .undef, .undef, .undef, .undef, .undef, .undef, .undef, .undef, .undef, .undef, .undef, .undef, .undef, .undef, .undef, .undef, .undef, .undef, .undef, .undef, .undef, .undef, .undef, .undef], []⟩ = f10_N k c23 c25 c27 c28 c29 c30 c31 (fun y0 => retF y0) :=
  (f10_e_mem k c23 c25 c27 c28 c29 c30 c31 retF)

noncomputable def G10 : Nat → (Bool → R) → R
  | 0, _ => none
  | k + 1, ret0 => f10_N k (G23 k) (G25 k) (G27 k) (G28 k) (G29 k) (G30 k) (G31 k) ret0 
theorem S10 : ∀ k, Snd Try.prog 10 f10_I f10_O (fun x ret => G10 k (fun y0 => ret y0))
  | 0 => snd_none
  | k + 1 => snd_step (E := f10_E k (G23 k) (G25 k) (G27 k) (G28 k) (G29 k) (G30 k) (G31 k)) rfl laidOut noNums (orc_ok (S23 k).o f23_D_ok (orc_ok (S25 k).o f25_D_ok (orc_ok (S27 k).o f27_D_ok (orc_ok (S28 k).o f28_D_ok (orc_ok (S29 k).o f29_D_ok (orc_ok (S30 k).o f30_D_ok (orc_ok (S31 k).o f31_D_ok orc0_ok))))))) (f := 10) (fn := Try.f10) (code := f10_code) Try.func10 (by kernel_rfl) (drawsOk_of laidOut (orc_ok (S23 k).o f23_D_ok (orc_ok (S25 k).o f25_D_ok (orc_ok (S27 k).o f27_D_ok (orc_ok (S28 k).o f28_D_ok (orc_ok (S29 k).o f29_D_ok (orc_ok (S30 k).o f30_D_ok (orc_ok (S31 k).o f31_D_ok orc0_ok))))))) mixed (by kernel_rfl)) f10_un f10_un_ok [] (fun _ => rfl)
      (fun x ret => f10_eq k (G23 k) (G25 k) (G27 k) (G28 k) (G29 k) (G30 k) (G31 k) ret)

/- catchpole/catchpolelaw14.valueOf -/
noncomputable def f33_I : PV → List SV × Obs := fun x => ([.val 24 x], [])
noncomputable def f33_D : List SV → Obs → Option (PV)
  | [.val 24 p1], [] => some p1
  | _, _ => none
theorem f33_D_ok (args : List SV) (B : Obs) (x : PV) (h : f33_D args B = some x) : f33_I x = (args, B) := by
  unfold f33_D at h
  split at h
  · injection h with h; subst h; rfl
  · cases h
noncomputable def f33_O : PV → Out := (fun y => ([.val 38 y], []))
noncomputable def f33_un : Out → Option (PV)
  | ([.val 38 y0], []) => some y0
  | _ => none
theorem f33_un_ok (o : Out) (y : PV) (h : f33_un o = some y) : o = f33_O y := by
  unfold f33_un at h
  split at h
  · injection h with h; subst h; rfl
  · cases h
noncomputable def f33_msk : Nat → Option (List Nat) := fun key => bif key == 9 then some [1, 2, 3, 4] else none
noncomputable def f33_C (c33 : PV → (PV → R) → R) : Oracle := orc 33 f33_D f33_O (fun x ret => c33 x (fun y0 => ret y0)) <| orc0
noncomputable def f33_E (k : Nat) (c33 : PV → (PV → R) → R) : Env := { P := Try.prog, nilOwn := fun d => false, fldOwn := fun d i => (d == 9 && i == 2), ownPar := ownPars, ownRet := false, mask := f33_msk, fuel := k, C := f33_C c33 }
noncomputable def f33_code : Code := Try.f33.body.getD .skip
noncomputable def f33_cw1 : Code := subC f33_code [1, 1, 0, 1, 0, 0]
noncomputable def f33_hw1_0 (p1 : PV) : St := ⟨[.dead, .ptr 1 [], .ptr 2 [], .ptr 3 [], .int .i64 0, .dead, .dead, .dead, .dead, .dead, .dead, .dead, .dead, .dead, .dead, .dead, .dead, .dead, .dead, .dead, .dead, .dead, .dead, .dead, .dead, .dead, .dead, .dead, .dead], [(1, .box 24 (.val 24 p1)), (2, .box 38 (.val 38 (PV.agg [(PV.int 0), (PV.int 0), (PV.list [])]))), (3, .box 38 (.agg 38 [.int .i64 (PV.num (PV.fld p1 0)), .int .u8 (PV.num (PV.fld p1 1)), .nils]))]⟩
noncomputable def f33_hw1_1 (p1 : PV) (n7 : Int) (l8 : List PV) : St := ⟨[.dead, .ptr 1 [], .ptr 2 [], .ptr 3 [], .int .i64 n7, .dead, .dead, .dead, .dead, .dead, .dead, .dead, .dead, .dead, .dead, .dead, .dead, .dead, .dead, .dead, .dead, .dead, .dead, .dead, .dead, .dead, .dead, .dead, .dead], [(1, .box 24 (.val 24 p1)), (2, .box 38 (.val 38 (PV.agg [(PV.int 0), (PV.int 0), (PV.list [])]))), (3, .box 38 (.agg 38 [.int .i64 (PV.num (PV.fld p1 0)), .int .u8 (PV.num (PV.fld p1 1)), .own 36 26])), (26, .row 38 l8)]⟩
noncomputable def f33_w1A (k : Nat) (c33 : PV → (PV → R) → R) (retF : PV → R) (p1 : PV) : R := loopM (f33_E k c33) f33_cw1 (kont (f33_E k c33) f33_code [1, 1, 0, 1, 0] (endK (f33_E k c33) Try.f33 [] f33_un retF)) k (f33_hw1_0 p1)
noncomputable def f33_w1b0 (c33 : PV → (PV → R) → R) (ret0 : PV → R) (next_w1_0 : Unit → R) (next_w1_1 : Int → (List PV) → R) (p1 : PV) : R :=
  bif (decide ((0 : Int) < (List.length (PV.els (PV.fld p1 2)) : Int))) then
    bif (true && decide ((0 : Int) ≤ (0 : Int)) && decide ((0 : Int) < (List.length (PV.els (PV.fld p1 2)) : Int))) then
      c33 (List.getD (PV.els (PV.fld p1 2)) ((0 : Int)).toNat PV.nil) fun p6 =>
      next_w1_1 1 [p6]
    else none
  else ret0 (PV.agg [(PV.int (PV.num (PV.fld p1 0))), (PV.int (PV.num (PV.fld p1 1))), (PV.list [])])

theorem f33_w1b0_mem (k : Nat) (c33 : PV → (PV → R) → R) (retF : PV → R) (NX_w1 : St → R) (p1 : PV) : exec (f33_E k c33) f33_cw1 (purgeK (f33_E k c33) f33_cw1 (loopK NX_w1 (kont (f33_E k c33) f33_code [1, 1, 0, 1, 0] (endK (f33_E k c33) Try.f33 [] f33_un retF)))) (f33_hw1_0 p1) = f33_w1b0 c33 (fun y0 => retF y0) (fun _ => NX_w1 (f33_hw1_0 p1)) (fun n7 l8 => NX_w1 (f33_hw1_1 p1 n7 l8)) p1 := by kernel_rfl

noncomputable def f33_w1b0N (k : Nat) (c33 : PV → (PV → R) → R) (ret0 : PV → R) (next_w1_0 : Unit → R) (next_w1_1 : Int → (List PV) → R) (p1 : PV) : R :=
  f33_w1b0 c33 ret0 next_w1_0 next_w1_1 p1
theorem f33_w1b0_eq (k : Nat) (c33 : PV → (PV → R) → R) (retF : PV → R) (NX_w1 : St → R) (p1 : PV) : exec (f33_E k c33) f33_cw1 (purgeK (f33_E k c33) f33_cw1 (loopK NX_w1 (kont (f33_E k c33) f33_code [1, 1, 0, 1, 0] (endK (f33_E k c33) Try.f33 [] f33_un retF)))) (f33_hw1_0 p1) = f33_w1b0N k c33 (fun y0 => retF y0) (fun _ => NX_w1 (f33_hw1_0 p1)) (fun n7 l8 => NX_w1 (f33_hw1_1 p1 n7 l8)) p1 :=
  (f33_w1b0_mem k c33 retF NX_w1 p1)

noncomputable def f33_w1b1 (c33 : PV → (PV → R) → R) (ret0 : PV → R) (next_w1_0 : Unit → R) (next_w1_1 : Int → (List PV) → R) (p1 : PV) (n7 : Int) (l8 : List PV) : R :=
  bif (decide (n7 < (List.length (PV.els (PV.fld p1 2)) : Int))) then
    bif (true && decide ((0 : Int) ≤ n7) && decide (n7 < (List.length (PV.els (PV.fld p1 2)) : Int))) then
      c33 (List.getD (PV.els (PV.fld p1 2)) (n7).toNat PV.nil) fun p9 =>
      bif (true && roomy (List.length l8 + List.length [p9]) 40) then
        next_w1_1 (IntKind.wrap .i64 (n7 + (1 : Int))) (l8 ++ [p9])
      else none
    else none
  else ret0 (PV.agg [(PV.int (PV.num (PV.fld p1 0))), (PV.int (PV.num (PV.fld p1 1))), (PV.list l8)])

theorem f33_w1b1_mem (k : Nat) (c33 : PV → (PV → R) → R) (retF : PV → R) (NX_w1 : St → R) (p1 : PV) (n7 : Int) (l8 : List PV) : exec (f33_E k c33) f33_cw1 (purgeK (f33_E k c33) f33_cw1 (loopK NX_w1 (kont (f33_E k c33) f33_code [1, 1, 0, 1, 0] (endK (f33_E k c33) Try.f33 [] f33_un retF)))) (f33_hw1_1 p1 n7 l8) = f33_w1b1 c33 (fun y0 => retF y0) (fun _ => NX_w1 (f33_hw1_0 p1)) (fun n7 l8 => NX_w1 (f33_hw1_1 p1 n7 l8)) p1 n7 l8 := by kernel_rfl

noncomputable def f33_w1b1N (k : Nat) (c33 : PV → (PV → R) → R) (ret0 : PV → R) (next_w1_0 : Unit → R) (next_w1_1 : Int → (List PV) → R) (p1 : PV) (n7 : Int) (l8 : List PV) : R :=
  f33_w1b1 c33 ret0 next_w1_0 next_w1_1 p1 n7 l8
theorem f33_w1b1_eq (k : Nat) (c33 : PV → (PV → R) → R) (retF : PV → R) (NX_w1 : St → R) (p1 : PV) (n7 : Int) (l8 : List PV) : exec (f33_E k c33) f33_cw1 (purgeK (f33_E k c33) f33_cw1 (loopK NX_w1 (kont (f33_E k c33) f33_code [1, 1, 0, 1, 0] (endK (f33_E k c33) Try.f33 [] f33_un retF)))) (f33_hw1_1 p1 n7 l8) = f33_w1b1N k c33 (fun y0 => retF y0) (fun _ => NX_w1 (f33_hw1_0 p1)) (fun n7 l8 => NX_w1 (f33_hw1_1 p1 n7 l8)) p1 n7 l8 :=
  (f33_w1b1_mem k c33 retF NX_w1 p1 n7 l8)

noncomputable def f33_w1B (k : Nat) (c33 : PV → (PV → R) → R) (ret0 : PV → R) (p1 : PV) (nx : Sum (Unit) (Int × (List PV)) → R) : Sum (Unit) (Int × (List PV)) → R := (Sum.elim (fun s => f33_w1b0N k c33 ret0 (fun _ => nx (.inl ())) (fun n7 l8 => nx (.inr (n7, l8))) p1) (fun s => f33_w1b1N k c33 ret0 (fun _ => nx (.inl ())) (fun n7 l8 => nx (.inr (n7, l8))) p1 s.1 s.2))
noncomputable def f33_w1N (k : Nat) (c33 : PV → (PV → R) → R) (ret0 : PV → R) (p1 : PV) : R := loopR (f33_w1B k c33 ret0 p1) k (.inl ())
theorem f33_w1_eq (k : Nat) (c33 : PV → (PV → R) → R) (retF : PV → R) (p1 : PV) : f33_w1A k c33 retF p1 = f33_w1N k c33 (fun y0 => retF y0) p1 :=
  Eq.mp (by kernel_rfl) (loop_sim (E := (f33_E k c33)) (c := f33_cw1) (K := (kont (f33_E k c33) f33_code [1, 1, 0, 1, 0] (endK (f33_E k c33) Try.f33 [] f33_un retF))) (S := Sum (Unit) (Int × (List PV))) (Sum.elim (fun s => f33_hw1_0 p1) (fun s => f33_hw1_1 p1 s.1 s.2)) (f33_w1B k c33 (fun y0 => retF y0) p1) (fun NX s => by
    cases s with
    | inl s => exact Eq.mp (by kernel_rfl) (f33_w1b0_eq k c33 retF NX p1)
    | inr s =>
      exact Eq.mp (by kernel_rfl) (f33_w1b1_eq k c33 retF NX p1 s.1 s.2)) k (.inl ()))

noncomputable def f33_e (c33 : PV → (PV → R) → R) (ret0 : PV → R) (w1 : Unit → R) (p1 : PV) : R :=
  w1 ()

theorem f33_e_mem (k : Nat) (c33 : PV → (PV → R) → R) (retF : PV → R) (p1 : PV) : exec (f33_E k c33) f33_code (endK (f33_E k c33) Try.f33 [] f33_un retF) ⟨[.val 24 p1, .undef, .undef, .undef, .undef, .undef, .undef, .undef, .undef, .undef, .undef, .undef, .undef, .undef, .undef, .undef, .undef, .undef, .undef, .undef, .undef, .undef, .undef, .undef, .undef, .undef, .undef, .undef, .undef], []⟩ = f33_e c33 (fun y0 => retF y0) (fun _ => f33_w1A k c33 retF p1) p1 := by kernel_rfl

noncomputable def f33_N (k : Nat) (c33 : PV → (PV → R) → R) (ret0 : PV → R) (p1 : PV) : R :=
  f33_e c33 ret0 (fun _ => f33_w1N k c33 ret0 p1) p1
theorem f33_eq (k : Nat) (c33 : PV → (PV → R) → R) (retF : PV → R) (p1 : PV) : exec (f33_E k c33) f33_code (endK (f33_E k c33) Try.f33 [] f33_un retF) ⟨[.val 24 p1, .undef, .undef, .undef, .undef, .undef, .undef, .undef, .undef, .undef, .undef, .undef, .undef, .undef, .undef, .undef, .undef, .undef, .undef, .undef, .undef, .undef, .undef, .undef, .undef, .undef, .undef, .undef, .undef], []⟩ = f33_N k c33 (fun y0 => retF y0) p1 :=
  (f33_e_mem k c33 retF p1).trans (by rw [show (fun _ => f33_w1A k c33 retF p1) = (fun _ => f33_w1N k c33 (fun y0 => retF y0) p1) from funext fun _ => f33_w1_eq k c33 retF p1]; rfl)

noncomputable def G33 : Nat → PV → (PV → R) → R
  | 0, _, _ => none
  | k + 1, p1, ret0 => f33_N k (G33 k) ret0 p1
theorem S33 : ∀ k, Snd Try.prog 33 f33_I f33_O (fun x ret => G33 k x (fun y0 => ret y0))
  | 0 => snd_none
  | k + 1 => snd_step (E := f33_E k (G33 k)) rfl laidOut noNums (orc_ok (S33 k).o f33_D_ok orc0_ok) (f := 33) (fn := Try.f33) (code := f33_code) Try.func33 (by kernel_rfl) (drawsOk_of laidOut (orc_ok (S33 k).o f33_D_ok orc0_ok) mixed (by kernel_rfl)) f33_un f33_un_ok [] (fun _ => rfl)
      (fun x ret => f33_eq k (G33 k) ret x)

/- catchpole/catchpoleref8.counts -/
noncomputable def f41_I : PV → List SV × Obs := fun x => ([.val 38 x], [])
noncomputable def f41_D : List SV → Obs → Option (PV)
  | [.val 38 p1], [] => some p1
  | _, _ => none
theorem f41_D_ok (args : List SV) (B : Obs) (x : PV) (h : f41_D args B = some x) : f41_I x = (args, B) := by
  unfold f41_D at h
  split at h
  · injection h with h; subst h; rfl
  · cases h
noncomputable def f41_O : PV → Out := (fun y => ([.val 36 y], []))
noncomputable def f41_un : Out → Option (PV)
  | ([.val 36 y0], []) => some y0
  | _ => none
theorem f41_un_ok (o : Out) (y : PV) (h : f41_un o = some y) : o = f41_O y := by
  unfold f41_un at h
  split at h
  · injection h with h; subst h; rfl
  · cases h
noncomputable def f41_msk : Nat → Option (List Nat) := fun key =>  none
noncomputable def f41_C : Oracle := orc0
noncomputable def f41_E (k : Nat) : Env := { P := Try.prog, nilOwn := fun d => false, fldOwn := fun d i => false, ownPar := ownPars, ownRet := false, mask := f41_msk, fuel := k, C := f41_C }
noncomputable def f41_code : Code := Try.f41.body.getD .skip
noncomputable def f41_e (ret0 : PV → R) (p1 : PV) : R :=
  bif (decide ((PV.num (PV.fld p1 0)) = (3 : Int))) then
    bif (decide ((List.length (PV.els (PV.fld p1 2)) : Int) < (2 : Int))) then
      bif (decide ((0 : Int) ≤ (0 : Int)) && decide ((0 : Int) ≤ (List.length (PV.els (PV.fld p1 2)) : Int)) && decide ((List.length (PV.els (PV.fld p1 2)) : Int) ≤ (List.length (PV.els (PV.fld p1 2)) : Int))) then
        ret0 (PV.list (List.drop ((0 : Int)).toNat (List.take ((List.length (PV.els (PV.fld p1 2)) : Int)).toNat (PV.els (PV.fld p1 2)))))
      else none
    else bif (decide ((0 : Int) ≤ (0 : Int)) && decide ((0 : Int) ≤ (2 : Int)) && decide ((2 : Int) ≤ (List.length (PV.els (PV.fld p1 2)) : Int))) then
      ret0 (PV.list (List.drop ((0 : Int)).toNat (List.take ((2 : Int)).toNat (PV.els (PV.fld p1 2)))))
    else none
  else bif (decide ((PV.num (PV.fld p1 0)) = (4 : Int))) then
    bif (decide ((List.length (PV.els (PV.fld p1 2)) : Int) < (1 : Int))) then
      bif (decide ((0 : Int) ≤ (0 : Int)) && decide ((0 : Int) ≤ (List.length (PV.els (PV.fld p1 2)) : Int)) && decide ((List.length (PV.els (PV.fld p1 2)) : Int) ≤ (List.length (PV.els (PV.fld p1 2)) : Int))) then
        ret0 (PV.list (List.drop ((0 : Int)).toNat (List.take ((List.length (PV.els (PV.fld p1 2)) : Int)).toNat (PV.els (PV.fld p1 2)))))
      else none
    else bif (decide ((0 : Int) ≤ (0 : Int)) && decide ((0 : Int) ≤ (1 : Int)) && decide ((1 : Int) ≤ (List.length (PV.els (PV.fld p1 2)) : Int))) then
      ret0 (PV.list (List.drop ((0 : Int)).toNat (List.take ((1 : Int)).toNat (PV.els (PV.fld p1 2)))))
    else none
  else bif (decide ((PV.num (PV.fld p1 0)) = (5 : Int))) then
    bif (decide ((List.length (PV.els (PV.fld p1 2)) : Int) < (1 : Int))) then
      bif (decide ((0 : Int) ≤ (0 : Int)) && decide ((0 : Int) ≤ (List.length (PV.els (PV.fld p1 2)) : Int)) && decide ((List.length (PV.els (PV.fld p1 2)) : Int) ≤ (List.length (PV.els (PV.fld p1 2)) : Int))) then
        ret0 (PV.list (List.drop ((0 : Int)).toNat (List.take ((List.length (PV.els (PV.fld p1 2)) : Int)).toNat (PV.els (PV.fld p1 2)))))
      else none
    else bif (decide ((0 : Int) ≤ (0 : Int)) && decide ((0 : Int) ≤ (1 : Int)) && decide ((1 : Int) ≤ (List.length (PV.els (PV.fld p1 2)) : Int))) then
      ret0 (PV.list (List.drop ((0 : Int)).toNat (List.take ((1 : Int)).toNat (PV.els (PV.fld p1 2)))))
    else none
  else bif (decide ((PV.num (PV.fld p1 0)) = (7 : Int))) then
    bif (decide ((List.length (PV.els (PV.fld p1 2)) : Int) < (1 : Int))) then
      bif (decide ((0 : Int) ≤ (0 : Int)) && decide ((0 : Int) ≤ (List.length (PV.els (PV.fld p1 2)) : Int)) && decide ((List.length (PV.els (PV.fld p1 2)) : Int) ≤ (List.length (PV.els (PV.fld p1 2)) : Int))) then
        ret0 (PV.list (List.drop ((0 : Int)).toNat (List.take ((List.length (PV.els (PV.fld p1 2)) : Int)).toNat (PV.els (PV.fld p1 2)))))
      else none
    else bif (decide ((0 : Int) ≤ (0 : Int)) && decide ((0 : Int) ≤ (1 : Int)) && decide ((1 : Int) ≤ (List.length (PV.els (PV.fld p1 2)) : Int))) then
      ret0 (PV.list (List.drop ((0 : Int)).toNat (List.take ((1 : Int)).toNat (PV.els (PV.fld p1 2)))))
    else none
  else bif (decide ((PV.num (PV.fld p1 0)) = (6 : Int))) then
    bif (decide ((List.length (PV.els (PV.fld p1 2)) : Int) < (List.length (PV.els (PV.fld p1 2)) : Int))) then
      bif (decide ((0 : Int) ≤ (0 : Int)) && decide ((0 : Int) ≤ (List.length (PV.els (PV.fld p1 2)) : Int)) && decide ((List.length (PV.els (PV.fld p1 2)) : Int) ≤ (List.length (PV.els (PV.fld p1 2)) : Int))) then
        ret0 (PV.list (List.drop ((0 : Int)).toNat (List.take ((List.length (PV.els (PV.fld p1 2)) : Int)).toNat (PV.els (PV.fld p1 2)))))
      else none
    else bif (decide ((0 : Int) ≤ (0 : Int)) && decide ((0 : Int) ≤ (List.length (PV.els (PV.fld p1 2)) : Int)) && decide ((List.length (PV.els (PV.fld p1 2)) : Int) ≤ (List.length (PV.els (PV.fld p1 2)) : Int))) then
      ret0 (PV.list (List.drop ((0 : Int)).toNat (List.take ((List.length (PV.els (PV.fld p1 2)) : Int)).toNat (PV.els (PV.fld p1 2)))))
    else none
  else bif (decide ((List.length (PV.els (PV.fld p1 2)) : Int) < (0 : Int))) then
    bif (decide ((0 : Int) ≤ (0 : Int)) && decide ((0 : Int) ≤ (List.length (PV.els (PV.fld p1 2)) : Int)) && decide ((List.length (PV.els (PV.fld p1 2)) : Int) ≤ (List.length (PV.els (PV.fld p1 2)) : Int))) then
      ret0 (PV.list (List.drop ((0 : Int)).toNat (List.take ((List.length (PV.els (PV.fld p1 2)) : Int)).toNat (PV.els (PV.fld p1 2)))))
    else none
  else bif (decide ((0 : Int) ≤ (0 : Int)) && decide ((0 : Int) ≤ (0 : Int)) && decide ((0 : Int) ≤ (List.length (PV.els (PV.fld p1 2)) : Int))) then
    ret0 (PV.list (List.drop ((0 : Int)).toNat (List.take ((0 : Int)).toNat (PV.els (PV.fld p1 2)))))
  else none

theorem f41_e_mem (k : Nat) (retF : PV → R) (p1 : PV) : exec (f41_E k) f41_code (endK (f41_E k) Try.f41 [] f41_un retF) ⟨[.val 38 p1, .undef, .undef, .undef, .undef, .undef, .undef, .undef, .undef, .undef, .undef, .undef, .undef, .undef, .undef, .undef, .undef, .undef, .undef, .undef, .undef, .undef, .undef, .undef, .undef, .undef, .undef, .undef, .undef], []⟩ = f41_e (fun y0 => retF y0) p1 := by kernel_rfl

noncomputable def f41_N (k : Nat) (ret0 : PV → R) (p1 : PV) : R :=
  f41_e ret0 p1
theorem f41_eq (k : Nat) (retF : PV → R) (p1 : PV) : exec (f41_E k) f41_code (endK (f41_E k) Try.f41 [] f41_un retF) ⟨[.val 38 p1, .undef, .undef, .undef, .undef, .undef, .undef, .undef, .undef, .undef, .undef, .undef, .undef, .undef, .undef, .undef, .undef, .undef, .undef, .undef, .undef, .undef, .undef, .undef, .undef, .undef, .undef, .undef, .undef], []⟩ = f41_N k (fun y0 => retF y0) p1 :=
  (f41_e_mem k retF p1)

noncomputable def G41 : Nat → PV → (PV → R) → R
  | 0, _, _ => none
  | k + 1, p1, ret0 => f41_N k  ret0 p1
theorem S41 : ∀ k, Snd Try.prog 41 f41_I f41_O (fun x ret => G41 k x (fun y0 => ret y0))
  | 0 => snd_none
  | k + 1 => snd_step (E := f41_E k ) rfl laidOut noNums orc0_ok (f := 41) (fn := Try.f41) (code := f41_code) Try.func41 (by kernel_rfl) (drawsOk_of laidOut orc0_ok mixed (by kernel_rfl)) f41_un f41_un_ok [] (fun _ => rfl)
      (fun x ret => f41_eq k  ret x)

/- catchpole/catchpoleref8.Bits -/
noncomputable def f34_I : PV → List SV × Obs := fun x => ([.val 38 x], [])
noncomputable def f34_D : List SV → Obs → Option (PV)
  | [.val 38 p1], [] => some p1
  | _, _ => none
theorem f34_D_ok (args : List SV) (B : Obs) (x : PV) (h : f34_D args B = some x) : f34_I x = (args, B) := by
  unfold f34_D at h
  split at h
  · injection h with h; subst h; rfl
  · cases h
noncomputable def f34_O : (List Int) → Out := (fun y => ([.str y], []))
noncomputable def f34_un : Out → Option ((List Int))
  | ([.str y0], []) => some y0
  | _ => none
theorem f34_un_ok (o : Out) (y : (List Int)) (h : f34_un o = some y) : o = f34_O y := by
  unfold f34_un at h
  split at h
  · injection h with h; subst h; rfl
  · cases h
noncomputable def f34_msk : Nat → Option (List Nat) := fun key => bif key == 27 then some [1, 3, 4, 5] else none
noncomputable def f34_C (c34 : PV → ((List Int) → R) → R) (c41 : PV → (PV → R) → R) : Oracle := orc 34 f34_D f34_O (fun x ret => c34 x (fun y0 => ret y0)) <| orc 41 f41_D f41_O (fun x ret => c41 x (fun y0 => ret y0)) <| orc0
noncomputable def f34_E (k : Nat) (c34 : PV → ((List Int) → R) → R) (c41 : PV → (PV → R) → R) : Env := { P := Try.prog, nilOwn := fun d => false, fldOwn := fun d i => false, ownPar := ownPars, ownRet := false, mask := f34_msk, fuel := k, C := f34_C c34 c41 }
noncomputable def f34_code : Code := Try.f34.body.getD .skip
noncomputable def f34_cw1 : Code := subC f34_code [1, 1, 1, 1, 0, 1, 0, 0]
noncomputable def f34_hw1_0 (p1 : PV) (p2 : PV) (s5 : List Int) (n6 : Int) : St := ⟨[.dead, .ptr 1 [], .dead, .str s5, .val 36 p2, .int .i64 n6, .dead, .dead, .dead, .dead, .dead, .dead, .dead, .dead, .dead, .dead, .dead, .dead, .dead, .dead, .dead, .dead, .dead, .dead, .dead, .dead, .dead, .dead, .dead, .dead, .dead, .dead, .dead, .dead, .dead, .dead, .dead, .dead], [(1, .box 38 (.val 38 p1))]⟩
noncomputable def f34_w1A (k : Nat) (c34 : PV → ((List Int) → R) → R) (c41 : PV → (PV → R) → R) (retF : (List Int) → R) (p1 : PV) (p2 : PV) (s5 : List Int) (n6 : Int) : R := loopM (f34_E k c34 c41) f34_cw1 (kont (f34_E k c34 c41) f34_code [1, 1, 1, 1, 0, 1, 0] (endK (f34_E k c34 c41) Try.f34 [] f34_un retF)) k (f34_hw1_0 p1 p2 s5 n6)
noncomputable def f34_w1b0 (c34 : PV → ((List Int) → R) → R) (c41 : PV → (PV → R) → R) (ret0 : (List Int) → R) (next_w1_0 : (List Int) → Int → R) (p1 : PV) (p2 : PV) (s5 : List Int) (n6 : Int) : R :=
  bif (decide (n6 < (List.length (PV.els p2) : Int))) then
    bif (decide ((PV.num (PV.fld p1 0)) = (6 : Int))) then
      bif (decide (List.length s5 + List.length [48] ≤ 4611686018427387904)) then
        bif (true && decide ((0 : Int) ≤ n6) && decide (n6 < (List.length (PV.els p2) : Int))) then
          c34 (List.getD (PV.els p2) (n6).toNat PV.nil) fun s7 =>
          bif (decide (List.length (s5 ++ [48]) + List.length s7 ≤ 4611686018427387904)) then
            next_w1_0 ((s5 ++ [48]) ++ s7) (IntKind.wrap .i64 (n6 + (1 : Int)))
          else none
        else none
      else none
    else bif (true && decide ((0 : Int) ≤ n6) && decide (n6 < (List.length (PV.els p2) : Int))) then
      c34 (List.getD (PV.els p2) (n6).toNat PV.nil) fun s8 =>
      bif (decide (List.length s5 + List.length s8 ≤ 4611686018427387904)) then
        next_w1_0 (s5 ++ s8) (IntKind.wrap .i64 (n6 + (1 : Int)))
      else none
    else none
  else bif (decide ((PV.num (PV.fld p1 0)) = (6 : Int))) then
    bif (decide (List.length s5 + List.length [49] ≤ 4611686018427387904)) then
      ret0 (s5 ++ [49])
    else none
  else ret0 s5

theorem f34_w1b0_mem (k : Nat) (c34 : PV → ((List Int) → R) → R) (c41 : PV → (PV → R) → R) (retF : (List Int) → R) (NX_w1 : St → R) (p1 : PV) (p2 : PV) (s5 : List Int) (n6 : Int) : exec (f34_E k c34 c41) f34_cw1 (purgeK (f34_E k c34 c41) f34_cw1 (loopK NX_w1 (kont (f34_E k c34 c41) f34_code [1, 1, 1, 1, 0, 1, 0] (endK (f34_E k c34 c41) Try.f34 [] f34_un retF)))) (f34_hw1_0 p1 p2 s5 n6) = f34_w1b0 c34 c41 (fun y0 => retF y0) (fun s5 n6 => NX_w1 (f34_hw1_0 p1 p2 s5 n6)) p1 p2 s5 n6 := by kernel_rfl

noncomputable def f34_w1b0N (k : Nat) (c34 : PV → ((List Int) → R) → R) (c41 : PV → (PV → R) → R) (ret0 : (List Int) → R) (next_w1_0 : (List Int) → Int → R) (p1 : PV) (p2 : PV) (s5 : List Int) (n6 : Int) : R :=
  f34_w1b0 c34 c41 ret0 next_w1_0 p1 p2 s5 n6
theorem f34_w1b0_eq (k : Nat) (c34 : PV → ((List Int) → R) → R) (c41 : PV → (PV → R) → R) (retF : (List Int) → R) (NX_w1 : St → R) (p1 : PV) (p2 : PV) (s5 : List Int) (n6 : Int) : exec (f34_E k c34 c41) f34_cw1 (purgeK (f34_E k c34 c41) f34_cw1 (loopK NX_w1 (kont (f34_E k c34 c41) f34_code [1, 1, 1, 1, 0, 1, 0] (endK (f34_E k c34 c41) Try.f34 [] f34_un retF)))) (f34_hw1_0 p1 p2 s5 n6) = f34_w1b0N k c34 c41 (fun y0 => retF y0) (fun s5 n6 => NX_w1 (f34_hw1_0 p1 p2 s5 n6)) p1 p2 s5 n6 :=
  (f34_w1b0_mem k c34 c41 retF NX_w1 p1 p2 s5 n6)

noncomputable def f34_w1B (k : Nat) (c34 : PV → ((List Int) → R) → R) (c41 : PV → (PV → R) → R) (ret0 : (List Int) → R) (p1 : PV) (p2 : PV) (nx : (List Int) × Int → R) : (List Int) × Int → R := (fun s => f34_w1b0N k c34 c41 ret0 (fun s5 n6 => nx (s5, n6)) p1 p2 s.1 s.2)
noncomputable def f34_w1N (k : Nat) (c34 : PV → ((List Int) → R) → R) (c41 : PV → (PV → R) → R) (ret0 : (List Int) → R) (p1 : PV) (p2 : PV) (s5 : List Int) (n6 : Int) : R := loopR (f34_w1B k c34 c41 ret0 p1 p2) k (s5, n6)
theorem f34_w1_eq (k : Nat) (c34 : PV → ((List Int) → R) → R) (c41 : PV → (PV → R) → R) (retF : (List Int) → R) (p1 : PV) (p2 : PV) (s5 : List Int) (n6 : Int) : f34_w1A k c34 c41 retF p1 p2 s5 n6 = f34_w1N k c34 c41 (fun y0 => retF y0) p1 p2 s5 n6 :=
  Eq.mp (by kernel_rfl) (loop_sim (E := (f34_E k c34 c41)) (c := f34_cw1) (K := (kont (f34_E k c34 c41) f34_code [1, 1, 1, 1, 0, 1, 0] (endK (f34_E k c34 c41) Try.f34 [] f34_un retF))) (S := (List Int) × Int) (fun s => f34_hw1_0 p1 p2 s.1 s.2) (f34_w1B k c34 c41 (fun y0 => retF y0) p1 p2) (fun NX s => by
    exact Eq.mp (by kernel_rfl) (f34_w1b0_eq k c34 c41 retF NX p1 p2 s.1 s.2)) k (s5, n6))

noncomputable def f34_cw2 : Code := subC f34_code [1, 1, 1, 1, 0, 1, 0, 0]
noncomputable def f34_hw2_0 (p1 : PV) (p2 : PV) (s11 : List Int) (n12 : Int) : St := ⟨[.dead, .ptr 1 [], .dead, .str s11, .val 36 p2, .int .i64 n12, .dead, .dead, .dead, .dead, .dead, .dead, .dead, .dead, .dead, .dead, .dead, .dead, .dead, .dead, .dead, .dead, .dead, .dead, .dead, .dead, .dead, .dead, .dead, .dead, .dead, .dead, .dead, .dead, .dead, .dead, .dead, .dead], [(1, .box 38 (.val 38 p1))]⟩
noncomputable def f34_w2A (k : Nat) (c34 : PV → ((List Int) → R) → R) (c41 : PV → (PV → R) → R) (retF : (List Int) → R) (p1 : PV) (p2 : PV) (s11 : List Int) (n12 : Int) : R := loopM (f34_E k c34 c41) f34_cw2 (kont (f34_E k c34 c41) f34_code [1, 1, 1, 1, 0, 1, 0] (endK (f34_E k c34 c41) Try.f34 [] f34_un retF)) k (f34_hw2_0 p1 p2 s11 n12)
noncomputable def f34_w2b0 (c34 : PV → ((List Int) → R) → R) (c41 : PV → (PV → R) → R) (ret0 : (List Int) → R) (next_w2_0 : (List Int) → Int → R) (p1 : PV) (p2 : PV) (s11 : List Int) (n12 : Int) : R :=
  bif (decide (n12 < (List.length (PV.els p2) : Int))) then
    bif (decide ((PV.num (PV.fld p1 0)) = (6 : Int))) then
      bif (decide (List.length s11 + List.length [48] ≤ 4611686018427387904)) then
        bif (true && decide ((0 : Int) ≤ n12) && decide (n12 < (List.length (PV.els p2) : Int))) then
          c34 (List.getD (PV.els p2) (n12).toNat PV.nil) fun s13 =>
          bif (decide (List.length (s11 ++ [48]) + List.length s13 ≤ 4611686018427387904)) then
            next_w2_0 ((s11 ++ [48]) ++ s13) (IntKind.wrap .i64 (n12 + (1 : Int)))
          else none
        else none
      else none
    else bif (true && decide ((0 : Int) ≤ n12) && decide (n12 < (List.length (PV.els p2) : Int))) then
      c34 (List.getD (PV.els p2) (n12).toNat PV.nil) fun s14 =>
      bif (decide (List.length s11 + List.length s14 ≤ 4611686018427387904)) then
        next_w2_0 (s11 ++ s14) (IntKind.wrap .i64 (n12 + (1 : Int)))
      else none
    else none
  else bif (decide ((PV.num (PV.fld p1 0)) = (6 : Int))) then
    bif (decide (List.length s11 + List.length [49] ≤ 4611686018427387904)) then
      ret0 (s11 ++ [49])
    else none
  else ret0 s11

theorem f34_w2b0_mem (k : Nat) (c34 : PV → ((List Int) → R) → R) (c41 : PV → (PV → R) → R) (retF : (List Int) → R) (NX_w2 : St → R) (p1 : PV) (p2 : PV) (s11 : List Int) (n12 : Int) : exec (f34_E k c34 c41) f34_cw2 (purgeK (f34_E k c34 c41) f34_cw2 (loopK NX_w2 (kont (f34_E k c34 c41) f34_code [1, 1, 1, 1, 0, 1, 0] (endK (f34_E k c34 c41) Try.f34 [] f34_un retF)))) (f34_hw2_0 p1 p2 s11 n12) = f34_w2b0 c34 c41 (fun y0 => retF y0) (fun s11 n12 => NX_w2 (f34_hw2_0 p1 p2 s11 n12)) p1 p2 s11 n12 := by kernel_rfl

noncomputable def f34_w2b0N (k : Nat) (c34 : PV → ((List Int) → R) → R) (c41 : PV → (PV → R) → R) (ret0 : (List Int) → R) (next_w2_0 : (List Int) → Int → R) (p1 : PV) (p2 : PV) (s11 : List Int) (n12 : Int) : R :=
  f34_w2b0 c34 c41 ret0 next_w2_0 p1 p2 s11 n12
theorem f34_w2b0_eq (k : Nat) (c34 : PV → ((List Int) → R) → R) (c41 : PV → (PV → R) → R) (retF : (List Int) → R) (NX_w2 : St → R) (p1 : PV) (p2 : PV) (s11 : List Int) (n12 : Int) : exec (f34_E k c34 c41) f34_cw2 (purgeK (f34_E k c34 c41) f34_cw2 (loopK NX_w2 (kont (f34_E k c34 c41) f34_code [1, 1, 1, 1, 0, 1, 0] (endK (f34_E k c34 c41) Try.f34 [] f34_un retF)))) (f34_hw2_0 p1 p2 s11 n12) = f34_w2b0N k c34 c41 (fun y0 => retF y0) (fun s11 n12 => NX_w2 (f34_hw2_0 p1 p2 s11 n12)) p1 p2 s11 n12 :=
  (f34_w2b0_mem k c34 c41 retF NX_w2 p1 p2 s11 n12)

noncomputable def f34_w2B (k : Nat) (c34 : PV → ((List Int) → R) → R) (c41 : PV → (PV → R) → R) (ret0 : (List Int) → R) (p1 : PV) (p2 : PV) (nx : (List Int) × Int → R) : (List Int) × Int → R := (fun s => f34_w2b0N k c34 c41 ret0 (fun s11 n12 => nx (s11, n12)) p1 p2 s.1 s.2)
noncomputable def f34_w2N (k : Nat) (c34 : PV → ((List Int) → R) → R) (c41 : PV → (PV → R) → R) (ret0 : (List Int) → R) (p1 : PV) (p2 : PV) (s11 : List Int) (n12 : Int) : R := loopR (f34_w2B k c34 c41 ret0 p1 p2) k (s11, n12)
theorem f34_w2_eq (k : Nat) (c34 : PV → ((List Int) → R) → R) (c41 : PV → (PV → R) → R) (retF : (List Int) → R) (p1 : PV) (p2 : PV) (s11 : List Int) (n12 : Int) : f34_w2A k c34 c41 retF p1 p2 s11 n12 = f34_w2N k c34 c41 (fun y0 => retF y0) p1 p2 s11 n12 :=
  Eq.mp (by kernel_rfl) (loop_sim (E := (f34_E k c34 c41)) (c := f34_cw2) (K := (kont (f34_E k c34 c41) f34_code [1, 1, 1, 1, 0, 1, 0] (endK (f34_E k c34 c41) Try.f34 [] f34_un retF))) (S := (List Int) × Int) (fun s => f34_hw2_0 p1 p2 s.1 s.2) (f34_w2B k c34 c41 (fun y0 => retF y0) p1 p2) (fun NX s => by
    exact Eq.mp (by kernel_rfl) (f34_w2b0_eq k c34 c41 retF NX p1 p2 s.1 s.2)) k (s11, n12))

noncomputable def f34_cw3 : Code := subC f34_code [1, 1, 1, 1, 0, 1, 0, 0]
noncomputable def f34_hw3_0 (p1 : PV) (p2 : PV) (s17 : List Int) (n18 : Int) : St := ⟨[.dead, .ptr 1 [], .dead, .str s17, .val 36 p2, .int .i64 n18, .dead, .dead, .dead, .dead, .dead, .dead, .dead, .dead, .dead, .dead, .dead, .dead, .dead, .dead, .dead, .dead, .dead, .dead, .dead, .dead, .dead, .dead, .dead, .dead, .dead, .dead, .dead, .dead, .dead, .dead, .dead, .dead], [(1, .box 38 (.val 38 p1))]⟩
noncomputable def f34_w3A (k : Nat) (c34 : PV → ((List Int) → R) → R) (c41 : PV → (PV → R) → R) (retF : (List Int) → R) (p1 : PV) (p2 : PV) (s17 : List Int) (n18 : Int) : R := loopM (f34_E k c34 c41) f34_cw3 (kont (f34_E k c34 c41) f34_code [1, 1, 1, 1, 0, 1, 0] (endK (f34_E k c34 c41) Try.f34 [] f34_un retF)) k (f34_hw3_0 p1 p2 s17 n18)
noncomputable def f34_w3b0 (c34 : PV → ((List Int) → R) → R) (c41 : PV → (PV → R) → R) (ret0 : (List Int) → R) (next_w3_0 : (List Int) → Int → R) (p1 : PV) (p2 : PV) (s17 : List Int) (n18 : Int) : R :=
  bif (decide (n18 < (List.length (PV.els p2) : Int))) then
    bif (decide ((PV.num (PV.fld p1 0)) = (6 : Int))) then
      bif (decide (List.length s17 + List.length [48] ≤ 4611686018427387904)) then
        bif (true && decide ((0 : Int) ≤ n18) && decide (n18 < (List.length (PV.els p2) : Int))) then
          c34 (List.getD (PV.els p2) (n18).toNat PV.nil) fun s19 =>
          bif (decide (List.length (s17 ++ [48]) + List.length s19 ≤ 4611686018427387904)) then
            next_w3_0 ((s17 ++ [48]) ++ s19) (IntKind.wrap .i64 (n18 + (1 : Int)))
          else none
        else none
      else none
    else bif (true && decide ((0 : Int) ≤ n18) && decide (n18 < (List.length (PV.els p2) : Int))) then
      c34 (List.getD (PV.els p2) (n18).toNat PV.nil) fun s20 =>
      bif (decide (List.length s17 + List.length s20 ≤ 4611686018427387904)) then
        next_w3_0 (s17 ++ s20) (IntKind.wrap .i64 (n18 + (1 : Int)))
      else none
    else none
  else bif (decide ((PV.num (PV.fld p1 0)) = (6 : Int))) then
    bif (decide (List.length s17 + List.length [49] ≤ 4611686018427387904)) then
      ret0 (s17 ++ [49])
    else none
  else ret0 s17

theorem f34_w3b0_mem (k : Nat) (c34 : PV → ((List Int) → R) → R) (c41 : PV → (PV → R) → R) (retF : (List Int) → R) (NX_w3 : St → R) (p1 : PV) (p2 : PV) (s17 : List Int) (n18 : Int) : exec (f34_E k c34 c41) f34_cw3 (purgeK (f34_E k c34 c41) f34_cw3 (loopK NX_w3 (kont (f34_E k c34 c41) f34_code [1, 1, 1, 1, 0, 1, 0] (endK (f34_E k c34 c41) Try.f34 [] f34_un retF)))) (f34_hw3_0 p1 p2 s17 n18) = f34_w3b0 c34 c41 (fun y0 => retF y0) (fun s17 n18 => NX_w3 (f34_hw3_0 p1 p2 s17 n18)) p1 p2 s17 n18 := by kernel_rfl

noncomputable def f34_w3b0N (k : Nat) (c34 : PV → ((List Int) → R) → R) (c41 : PV → (PV → R) → R) (ret0 : (List Int) → R) (next_w3_0 : (List Int) → Int → R) (p1 : PV) (p2 : PV) (s17 : List Int) (n18 : Int) : R :=
  f34_w3b0 c34 c41 ret0 next_w3_0 p1 p2 s17 n18
theorem f34_w3b0_eq (k : Nat) (c34 : PV → ((List Int) → R) → R) (c41 : PV → (PV → R) → R) (retF : (List Int) → R) (NX_w3 : St → R) (p1 : PV) (p2 : PV) (s17 : List Int) (n18 : Int) : exec (f34_E k c34 c41) f34_cw3 (purgeK (f34_E k c34 c41) f34_cw3 (loopK NX_w3 (kont (f34_E k c34 c41) f34_code [1, 1, 1, 1, 0, 1, 0] (endK (f34_E k c34 c41) Try.f34 [] f34_un retF)))) (f34_hw3_0 p1 p2 s17 n18) = f34_w3b0N k c34 c41 (fun y0 => retF y0) (fun s17 n18 => NX_w3 (f34_hw3_0 p1 p2 s17 n18)) p1 p2 s17 n18 :=
  (f34_w3b0_mem k c34 c41 retF NX_w3 p1 p2 s17 n18)

noncomputable def f34_w3B (k : Nat) (c34 : PV → ((List Int) → R) → R) (c41 : PV → (PV → R) → R) (ret0 : (List Int) → R) (p1 : PV) (p2 : PV) (nx : (List Int) × Int → R) : (List Int) × Int → R := (fun s => f34_w3b0N k c34 c41 ret0 (fun s17 n18 => nx (s17, n18)) p1 p2 s.1 s.2)
noncomputable def f34_w3N (k : Nat) (c34 : PV → ((List Int) → R) → R) (c41 : PV → (PV → R) → R) (ret0 : (List Int) → R) (p1 : PV) (p2 : PV) (s17 : List Int) (n18 : Int) : R := loopR (f34_w3B k c34 c41 ret0 p1 p2) k (s17, n18)
theorem f34_w3_eq (k : Nat) (c34 : PV → ((List Int) → R) → R) (c41 : PV → (PV → R) → R) (retF : (List Int) → R) (p1 : PV) (p2 : PV) (s17 : List Int) (n18 : Int) : f34_w3A k c34 c41 retF p1 p2 s17 n18 = f34_w3N k c34 c41 (fun y0 => retF y0) p1 p2 s17 n18 :=
  Eq.mp (by kernel_rfl) (loop_sim (E := (f34_E k c34 c41)) (c := f34_cw3) (K := (kont (f34_E k c34 c41) f34_code [1, 1, 1, 1, 0, 1, 0] (endK (f34_E k c34 c41) Try.f34 [] f34_un retF))) (S := (List Int) × Int) (fun s => f34_hw3_0 p1 p2 s.1 s.2) (f34_w3B k c34 c41 (fun y0 => retF y0) p1 p2) (fun NX s => by
    exact Eq.mp (by kernel_rfl) (f34_w3b0_eq k c34 c41 retF NX p1 p2 s.1 s.2)) k (s17, n18))

noncomputable def f34_e (c34 : PV → ((List Int) → R) → R) (c41 : PV → (PV → R) → R) (ret0 : (List Int) → R) (w1 : PV → (List Int) → Int → R) (w2 : PV → (List Int) → Int → R) (w3 : PV → (List Int) → Int → R) (p1 : PV) : R :=
  c41 p1 fun p2 =>
  bif (decide ((PV.num (PV.fld p1 0)) = (4 : Int))) then
    w1 p2 [48] 0
  else bif (decide ((PV.num (PV.fld p1 0)) = (5 : Int))) then
    w2 p2 [49] 0
  else w3 p2 [] 0

theorem f34_e_mem (k : Nat) (c34 : PV → ((List Int) → R) → R) (c41 : PV → (PV → R) → R) (retF : (List Int) → R) (p1 : PV) : exec (f34_E k c34 c41) f34_code (endK (f34_E k c34 c41) Try.f34 [] f34_un retF) ⟨[.val 38 p1, .undef, .undef, .undef, .undef, .undef, .undef, .undef, .undef, .undef, .undef, .undef, .undef, .undef, .undef, .undef, .undef, .undef, .undef, .undef, .undef, .undef, .undef, .undef, .undef, .undef, .undef, .undef, .undef, .undef, .undef, .undef, .undef, .undef, .undef, .undef, .undef, .undef], []⟩ = f34_e c34 c41 (fun y0 => retF y0) (fun p2 s5 n6 => f34_w1A k c34 c41 retF p1 p2 s5 n6) (fun p2 s11 n12 => f34_w2A k c34 c41 retF p1 p2 s11 n12) (fun p2 s17 n18 => f34_w3A k c34 c41 retF p1 p2 s17 n18) p1 := by kernel_rfl

noncomputable def f34_N (k : Nat) (c34 : PV → ((List Int) → R) → R) (c41 : PV → (PV → R) → R) (ret0 : (List Int) → R) (p1 : PV) : R :=
  f34_e c34 c41 ret0 (fun p2 s5 n6 => f34_w1N k c34 c41 ret0 p1 p2 s5 n6) (fun p2 s11 n12 => f34_w2N k c34 c41 ret0 p1 p2 s11 n12) (fun p2 s17 n18 => f34_w3N k c34 c41 ret0 p1 p2 s17 n18) p1
theorem f34_eq (k : Nat) (c34 : PV → ((List Int) → R) → R) (c41 : PV → (PV → R) → R) (retF : (List Int) → R) (p1 : PV) : exec (f34_E k c34 c41) f34_code (endK (f34_E k c34 c41) Try.f34 [] f34_un retF) ⟨[.val 38 p1, .undef, .undef, .undef, .undef, .undef, .undef, .undef, .undef, .undef, .undef, .undef, .undef, .undef, .undef, .undef, .undef, .undef, .undef, .undef, .undef, .undef, .undef, .undef, .undef, .undef, .undef, .undef, .undef, .undef, .undef, .undef, .undef, .undef, .undef, .undef, .undef, .undef], []⟩ = f34_N k c34 c41 (fun y0 => retF y0) p1 :=
  (f34_e_mem k c34 c41 retF p1).trans (by rw [show (fun p2 s5 n6 => f34_w1A k c34 c41 retF p1 p2 s5 n6) = (fun p2 s5 n6 => f34_w1N k c34 c41 (fun y0 => retF y0) p1 p2 s5 n6) from funext fun p2 => funext fun s5 => funext fun n6 => f34_w1_eq k c34 c41 retF p1 p2 s5 n6, show (fun p2 s11 n12 => f34_w2A k c34 c41 retF p1 p2 s11 n12) = (fun p2 s11 n12 => f34_w2N k c34 c41 (fun y0 => retF y0) p1 p2 s11 n12) from funext fun p2 => funext fun s11 => funext fun n12 => f34_w2_eq k c34 c41 retF p1 p2 s11 n12, show (fun p2 s17 n18 => f34_w3A k c34 c41 retF p1 p2 s17 n18) = (fun p2 s17 n18 => f34_w3N k c34 c41 (fun y0 => retF y0) p1 p2 s17 n18) from funext fun p2 => funext fun s17 => funext fun n18 => f34_w3_eq k c34 c41 retF p1 p2 s17 n18]; rfl)

noncomputable def G34 : Nat → PV → ((List Int) → R) → R
  | 0, _, _ => none
  | k + 1, p1, ret0 => f34_N k (G34 k) (G41 k) ret0 p1
theorem S34 : ∀ k, Snd Try.prog 34 f34_I f34_O (fun x ret => G34 k x (fun y0 => ret y0))
  | 0 => snd_none
  | k + 1 => snd_step (E := f34_E k (G34 k) (G41 k)) rfl laidOut noNums (orc_ok (S34 k).o f34_D_ok (orc_ok (S41 k).o f41_D_ok orc0_ok)) (f := 34) (fn := Try.f34) (code := f34_code) Try.func34 (by kernel_rfl) (drawsOk_of laidOut (orc_ok (S34 k).o f34_D_ok (orc_ok (S41 k).o f41_D_ok orc0_ok)) mixed (by kernel_rfl)) f34_un f34_un_ok [] (fun _ => rfl)
      (fun x ret => f34_eq k (G34 k) (G41 k) ret x)

/- catchpole/catchpoleref8.Eager -/
noncomputable def f32_I : PV × PV → List SV × Obs := fun x => ([.val 38 x.1, .val 38 x.2], [])
noncomputable def f32_D : List SV → Obs → Option (PV × PV)
  | [.val 38 p1, .val 38 p2], [] => some (p1, p2)
  | _, _ => none
theorem f32_D_ok (args : List SV) (B : Obs) (x : PV × PV) (h : f32_D args B = some x) : f32_I x = (args, B) := by
  unfold f32_D at h
  split at h
  · injection h with h; subst h; rfl
  · cases h
noncomputable def f32_O : Int → Out := (fun y => ([.int .i64 y], []))
noncomputable def f32_un : Out → Option (Int)
  | ([.int .i64 y0], []) => some y0
  | _ => none
theorem f32_un_ok (o : Out) (y : Int) (h : f32_un o = some y) : o = f32_O y := by
  unfold f32_un at h
  split at h
  · injection h with h; subst h; rfl
  · cases h
noncomputable def f32_msk : Nat → Option (List Nat) := fun key =>  none
noncomputable def f32_C (c34 : PV → ((List Int) → R) → R) : Oracle := orc 34 f34_D f34_O (fun x ret => c34 x (fun y0 => ret y0)) <| orc0
noncomputable def f32_E (k : Nat) (c34 : PV → ((List Int) → R) → R) : Env := { P := Try.prog, nilOwn := fun d => false, fldOwn := fun d i => false, ownPar := ownPars, ownRet := false, mask := f32_msk, fuel := k, C := f32_C c34 }
noncomputable def f32_code : Code := Try.f32.body.getD .skip
noncomputable def f32_e (c34 : PV → ((List Int) → R) → R) (ret0 : Int → R) (p1 : PV) (p2 : PV) : R :=
  c34 p1 fun s3 =>
  c34 p2 fun s4 =>
  bif (lexLt s3 s4) then
    ret0 (-1)
  else bif (!((lexLt s3 s4) || (decide ((s3 : List Int) = s4)))) then
    ret0 1
  else ret0 0

theorem f32_e_mem (k : Nat) (c34 : PV → ((List Int) → R) → R) (retF : Int → R) (p1 : PV) (p2 : PV) : exec (f32_E k c34) f32_code (endK (f32_E k c34) Try.f32 [] f32_un retF) ⟨[.val 38 p1, .val 38 p2, .undef, .undef, .undef, .undef, .undef, .undef, .undef, .undef, .undef, .undef, .undef, .undef, .undef, .undef, .undef], []⟩ = f32_e c34 (fun y0 => retF y0) p1 p2 := by kernel_rfl

noncomputable def f32_N (k : Nat) (c34 : PV → ((List Int) → R) → R) (ret0 : Int → R) (p1 : PV) (p2 : PV) : R :=
  f32_e c34 ret0 p1 p2
theorem f32_eq (k : Nat) (c34 : PV → ((List Int) → R) → R) (retF : Int → R) (p1 : PV) (p2 : PV) : exec (f32_E k c34) f32_code (endK (f32_E k c34) Try.f32 [] f32_un retF) ⟨[.val 38 p1, .val 38 p2, .undef, .undef, .undef, .undef, .undef, .undef, .undef, .undef, .undef, .undef, .undef, .undef, .undef, .undef, .undef], []⟩ = f32_N k c34 (fun y0 => retF y0) p1 p2 :=
  (f32_e_mem k c34 retF p1 p2)

noncomputable def G32 : Nat → PV → PV → (Int → R) → R
  | 0, _, _, _ => none
  | k + 1, p1, p2, ret0 => f32_N k (G34 k) ret0 p1 p2
theorem S32 : ∀ k, Snd Try.prog 32 f32_I f32_O (fun x ret => G32 k x.1 x.2 (fun y0 => ret y0))
  | 0 => snd_none
  | k + 1 => snd_step (E := f32_E k (G34 k)) rfl laidOut noNums (orc_ok (S34 k).o f34_D_ok orc0_ok) (f := 32) (fn := Try.f32) (code := f32_code) Try.func32 (by kernel_rfl) (drawsOk_of laidOut (orc_ok (S34 k).o f34_D_ok orc0_ok) mixed (by kernel_rfl)) f32_un f32_un_ok [] (fun _ => rfl)
      (fun x ret => f32_eq k (G34 k) ret x.1 x.2)

/- catchpole/catchpolelaw14.EagerSays -/
noncomputable def f11_I : PV × PV × PV → List SV × Obs := fun x => ([.val 24 x.1, .val 24 x.2.1, .val 22 x.2.2], [])
noncomputable def f11_D : List SV → Obs → Option (PV × PV × PV)
  | [.val 24 p1, .val 24 p2, .val 22 p3], [] => some (p1, p2, p3)
  | _, _ => none
theorem f11_D_ok (args : List SV) (B : Obs) (x : PV × PV × PV) (h : f11_D args B = some x) : f11_I x = (args, B) := by
  unfold f11_D at h
  split at h
  · injection h with h; subst h; rfl
  · cases h
noncomputable def f11_O : Bool → Out := (fun y => ([.bool y], []))
noncomputable def f11_un : Out → Option (Bool)
  | ([.bool y0], []) => some y0
  | _ => none
theorem f11_un_ok (o : Out) (y : Bool) (h : f11_un o = some y) : o = f11_O y := by
  unfold f11_un at h
  split at h
  · injection h with h; subst h; rfl
  · cases h
noncomputable def f11_msk : Nat → Option (List Nat) := fun key => bif key == 21 then some [2, 3, 4, 7, 8] else bif key == 45 then some [2, 3, 4, 7, 9, 10, 11] else none
noncomputable def f11_C (c23 : (Bool → R) → R) (c24 : PV → Int → (Bool → R) → R) (c25 : PV → PV → (Int → R) → R) (c27 : PV → PV → (Int → R) → R) (c31 : PV → (Int → Bool → R) → R) (c32 : PV → PV → (Int → R) → R) (c33 : PV → (PV → R) → R) (c34 : PV → ((List Int) → R) → R) : Oracle := orc 23 f23_D f23_O (fun x ret => c23 (fun y0 => ret y0)) <| orc 24 f24_D f24_O (fun x ret => c24 x.1 x.2 (fun y0 => ret y0)) <| orc 25 f25_D f25_O (fun x ret => c25 x.1 x.2 (fun y0 => ret y0)) <| orc 27 f27_D f27_O (fun x ret => c27 x.1 x.2 (fun y0 => ret y0)) <| orc 31 f31_D f31_O (fun x ret => c31 x (fun y0 y1 => ret (y0, y1))) <| orc 32 f32_D f32_O (fun x ret => c32 x.1 x.2 (fun y0 => ret y0)) <| orc 33 f33_D f33_O (fun x ret => c33 x (fun y0 => ret y0)) <| orc 34 f34_D f34_O (fun x ret => c34 x (fun y0 => ret y0)) <| orc0
noncomputable def f11_E (k : Nat) (c23 : (Bool → R) → R) (c24 : PV → Int → (Bool → R) → R) (c25 : PV → PV → (Int → R) → R) (c27 : PV → PV → (Int → R) → R) (c31 : PV → (Int → Bool → R) → R) (c32 : PV → PV → (Int → R) → R) (c33 : PV → (PV → R) → R) (c34 : PV → ((List Int) → R) → R) : Env := { P := Try.prog, nilOwn := fun d => false, fldOwn := fun d i => false, ownPar := ownPars, ownRet := false, mask := f11_msk, fuel := k, C := f11_C c23 c24 c25 c27 c31 c32 c33 c34 }
noncomputable def f11_code : Code := Try.f11.body.getD .skip
noncomputable def f11_cw1 : Code := subC f11_code [1, 1, 1, 1, 0, 1, 0, 0]
noncomputable def f11_hw1_0 (p1 : PV) (p2 : PV) (p3 : PV) (n97 : Int) (n98 : Int) : St := ⟨[.dead, .dead, .val 22 p3, .ptr 3 [], .ptr 4 [], .dead, .dead, .int .i64 n97, .int .i64 n98, .dead, .dead, .dead, .dead, .dead, .dead, .dead, .dead, .dead, .dead, .dead, .dead, .dead, .dead, .dead, .dead, .dead, .dead, .dead, .dead, .dead, .dead, .dead, .dead, .dead, .dead, .dead, .dead, .dead, .dead, .dead, .dead, .dead, .dead, .dead, .dead, .dead, .dead, .dead, .dead, .dead, .dead, .dead, .dead, .dead, .dead, .dead, .dead, .dead, .dead, .dead, .dead, .dead, .dead, .dead, .dead, .dead, .dead, .dead, .dead, .dead, .dead, .dead, .dead, .dead, .dead, .dead, .dead, .dead, .dead, .dead, .dead, .dead, .dead, .dead, .dead, .dead, .dead, .dead, .dead, .dead, .dead, .dead, .dead, .dead, .dead, .dead, .dead, .dead, .dead, .dead, .dead, .dead, .dead, .dead, .dead, .dead, .dead, .dead, .dead, .dead, .dead, .dead, .dead, .dead, .dead, .dead, .dead, .dead, .dead, .dead, .dead], [(3, .box 24 (.val 24 p1)), (4, .box 24 (.val 24 p2))]⟩
noncomputable def f11_w1A (k : Nat) (c23 : (Bool → R) → R) (c24 : PV → Int → (Bool → R) → R) (c25 : PV → PV → (Int → R) → R) (c27 : PV → PV → (Int → R) → R) (c31 : PV → (Int → Bool → R) → R) (c32 : PV → PV → (Int → R) → R) (c33 : PV → (PV → R) → R) (c34 : PV → ((List Int) → R) → R) (retF : Bool → R) (p1 : PV) (p2 : PV) (p3 : PV) (n97 : Int) (n98 : Int) : R := loopM (f11_E k c23 c24 c25 c27 c31 c32 c33 c34) f11_cw1 (kont (f11_E k c23 c24 c25 c27 c31 c32 c33 c34) f11_code [1, 1, 1, 1, 0, 1, 0] (endK (f11_E k c23 c24 c25 c27 c31 c32 c33 c34) Try.f11 [] f11_un retF)) k (f11_hw1_0 p1 p2 p3 n97 n98)
noncomputable def f11_cw3 : Code := subC f11_code [1, 1, 1, 1, 1, 1, 1, 0, 0, 0]
noncomputable def f11_hw3_0 (p1 : PV) (p2 : PV) (p3 : PV) (n97 : Int) (s104 : List Int) (s106 : List Int) (n149 : Int) : St := ⟨[.dead, .dead, .val 22 p3, .ptr 3 [], .ptr 4 [], .dead, .dead, .int .i64 n97, .dead, .str s104, .str s106, .int .i64 n149, .dead, .dead, .dead, .dead, .dead, .dead, .dead, .dead, .dead, .dead, .dead, .dead, .dead, .dead, .dead, .dead, .dead, .dead, .dead, .dead, .dead, .dead, .dead, .dead, .dead, .dead, .dead, .dead, .dead, .dead, .dead, .dead, .dead, .dead, .dead, .dead, .dead, .dead, .dead, .dead, .dead, .dead, .dead, .dead, .dead, .dead, .dead, .dead, .dead, .dead, .dead, .dead, .dead, .dead, .dead, .dead, .dead, .dead, .dead, .dead, .dead, .dead, .dead, .dead, .dead, .dead, .dead, .dead, .dead, .dead, .dead, .dead, .dead, .dead, .dead, .dead, .dead, .dead, .dead, .dead, .dead, .dead, .dead, .dead, .dead, .dead, .dead, .dead, .dead, .dead, .dead, .dead, .dead, .dead, .dead, .dead, .dead, .dead, .dead, .dead, .dead, .dead, .dead, .dead, .dead, .dead, .dead, .dead, .dead], [(3, .box 24 (.val 24 p1)), (4, .box 24 (.val 24 p2))]⟩
noncomputable def f11_w3A (k : Nat) (c23 : (Bool → R) → R) (c24 : PV → Int → (Bool → R) → R) (c25 : PV → PV → (Int → R) → R) (c27 : PV → PV → (Int → R) → R) (c31 : PV → (Int → Bool → R) → R) (c32 : PV → PV → (Int → R) → R) (c33 : PV → (PV → R) → R) (c34 : PV → ((List Int) → R) → R) (retF : Bool → R) (p1 : PV) (p2 : PV) (p3 : PV) (n97 : Int) (s104 : List Int) (s106 : List Int) (n149 : Int) : R := loopM (f11_E k c23 c24 c25 c27 c31 c32 c33 c34) f11_cw3 (kont (f11_E k c23 c24 c25 c27 c31 c32 c33 c34) f11_code [1, 1, 1, 1, 1, 1, 1, 0, 0] (endK (f11_E k c23 c24 c25 c27 c31 c32 c33 c34) Try.f11 [] f11_un retF)) k (f11_hw3_0 p1 p2 p3 n97 s104 s106 n149)
noncomputable def f11_w3b0 (c23 : (Bool → R) → R) (c24 : PV → Int → (Bool → R) → R) (c25 : PV → PV → (Int → R) → R) (c27 : PV → PV → (Int → R) → R) (c31 : PV → (Int → Bool → R) → R) (c32 : PV → PV → (Int → R) → R) (c33 : PV → (PV → R) → R) (c34 : PV → ((List Int) → R) → R) (ret0 : Bool → R) (next_w3_0 : Int → R) (p1 : PV) (p2 : PV) (p3 : PV) (n97 : Int) (s104 : List Int) (s106 : List Int) (n149 : Int) : R :=
  bif ((decide (n149 < (List.length s104 : Int))) == true) then
    bif ((decide (n149 < (List.length s106 : Int))) == true) then
      bif (decide ((0 : Int) ≤ n149) && decide (n149 < (List.length s104 : Int))) then
        bif (decide ((0 : Int) ≤ n149) && decide (n149 < (List.length s106 : Int))) then
          bif (decide ((List.getD s104 (n149).toNat 0) = (List.getD s106 (n149).toNat 0))) then
            next_w3_0 (IntKind.wrap .i64 (n149 + (1 : Int)))
          else bif (decide ((s104 : List Int) = s106)) then
            c31 p3 fun n150 b151 =>
            c25 p1 p2 fun n152 =>
            c33 p1 fun p153 =>
            c33 p2 fun p154 =>
            c32 p153 p154 fun n155 =>
            bif ((decide (n152 = n155)) == true) then
              c27 p1 p2 fun n156 =>
              bif ((decide (n156 = (-1 : Int))) == true) then
                bif ((b151 == (decide ((0 : Int) ≤ n97))) == true) then
                  bif ((!b151) == false) then
                    ret0 (decide (n150 = n97))
                  else ret0 true
                else ret0 false
              else ret0 false
            else ret0 false
          else c31 p3 fun n157 b158 =>
          c25 p1 p2 fun n159 =>
          c33 p1 fun p160 =>
          c33 p2 fun p161 =>
          c32 p160 p161 fun n162 =>
          bif ((decide (n159 = n162)) == true) then
            c27 p1 p2 fun n163 =>
            bif ((decide (n163 = n149)) == true) then
              bif ((b158 == (decide ((0 : Int) ≤ n97))) == true) then
                bif ((!b158) == false) then
                  ret0 (decide (n157 = n97))
                else ret0 true
              else ret0 false
            else ret0 false
          else ret0 false
        else none
      else none
    else bif (decide ((s104 : List Int) = s106)) then
      c31 p3 fun n164 b165 =>
      c25 p1 p2 fun n166 =>
      c33 p1 fun p167 =>
      c33 p2 fun p168 =>
      c32 p167 p168 fun n169 =>
      bif ((decide (n166 = n169)) == true) then
        c27 p1 p2 fun n170 =>
        bif ((decide (n170 = (-1 : Int))) == true) then
          bif ((b165 == (decide ((0 : Int) ≤ n97))) == true) then
            bif ((!b165) == false) then
              ret0 (decide (n164 = n97))
            else ret0 true
          else ret0 false
        else ret0 false
      else ret0 false
    else c31 p3 fun n171 b172 =>
    c25 p1 p2 fun n173 =>
    c33 p1 fun p174 =>
    c33 p2 fun p175 =>
    c32 p174 p175 fun n176 =>
    bif ((decide (n173 = n176)) == true) then
      c27 p1 p2 fun n177 =>
      bif ((decide (n177 = n149)) == true) then
        bif ((b172 == (decide ((0 : Int) ≤ n97))) == true) then
          bif ((!b172) == false) then
            ret0 (decide (n171 = n97))
          else ret0 true
        else ret0 false
      else ret0 false
    else ret0 false
  else bif (decide ((s104 : List Int) = s106)) then
    c31 p3 fun n178 b179 =>
    c25 p1 p2 fun n180 =>
    c33 p1 fun p181 =>
    c33 p2 fun p182 =>
    c32 p181 p182 fun n183 =>
    bif ((decide (n180 = n183)) == true) then
      c27 p1 p2 fun n184 =>
      bif ((decide (n184 = (-1 : Int))) == true) then
        bif ((b179 == (decide ((0 : Int) ≤ n97))) == true) then
          bif ((!b179) == false) then
            ret0 (decide (n178 = n97))
          else ret0 true
        else ret0 false
      else ret0 false
    else ret0 false
  else c31 p3 fun n185 b186 =>
  c25 p1 p2 fun n187 =>
  c33 p1 fun p188 =>
  c33 p2 fun p189 =>
  c32 p188 p189 fun n190 =>
  bif ((decide (n187 = n190)) == true) then
    c27 p1 p2 fun n191 =>
    bif ((decide (n191 = n149)) == true) then
      bif ((b186 == (decide ((0 : Int) ≤ n97))) == true) then
        bif ((!b186) == false) then
          ret0 (decide (n185 = n97))
        else ret0 true
      else ret0 false
    else ret0 false
  else ret0 false

theorem f11_w3b0_mem (k : Nat) (c23 : (Bool → R) → R) (c24 : PV → Int → (Bool → R) → R) (c25 : PV → PV → (Int → R) → R) (c27 : PV → PV → (Int → R) → R) (c31 : PV → (Int → Bool → R) → R) (c32 : PV → PV → (Int → R) → R) (c33 : PV → (PV → R) → R) (c34 : PV → ((List Int) → R) → R) (retF : Bool → R) (NX_w3 : St → R) (p1 : PV) (p2 : PV) (p3 : PV) (n97 : Int) (s104 : List Int) (s106 : List Int) (n149 : Int) : exec (f11_E k c23 c24 c25 c27 c31 c32 c33 c34) f11_cw3 (purgeK (f11_E k c23 c24 c25 c27 c31 c32 c33 c34) f11_cw3 (loopK NX_w3 (kont (f11_E k c23 c24 c25 c27 c31 c32 c33 c34) f11_code [1, 1, 1, 1, 1, 1, 1, 0, 0] (endK (f11_E k c23 c24 c25 c27 c31 c32 c33 c34) Try.f11 [] f11_un retF)))) (f11_hw3_0 p1 p2 p3 n97 s104 s106 n149) = f11_w3b0 c23 c24 c25 c27 c31 c32 c33 c34 (fun y0 => retF y0) (fun n149 => NX_w3 (f11_hw3_0 p1 p2 p3 n97 s104 s106 n149)) p1 p2 p3 n97 s104 s106 n149 := by kernel_rfl

noncomputable def f11_w3b0N (k : Nat) (c23 : (Bool → R) → R) (c24 : PV → Int → (Bool → R) → R) (c25 : PV → PV → (Int → R) → R) (c27 : PV → PV → (Int → R) → R) (c31 : PV → (Int → Bool → R) → R) (c32 : PV → PV → (Int → R) → R) (c33 : PV → (PV → R) → R) (c34 : PV → ((List Int) → R) → R) (ret0 : Bool → R) (next_w3_0 : Int → R) (p1 : PV) (p2 : PV) (p3 : PV) (n97 : Int) (s104 : List Int) (s106 : List Int) (n149 : Int) : R :=
  f11_w3b0 c23 c24 c25 c27 c31 c32 c33 c34 ret0 next_w3_0 p1 p2 p3 n97 s104 s106 n149
theorem f11_w3b0_eq (k : Nat) (c23 : (Bool → R) → R) (c24 : PV → Int → (Bool → R) → R) (c25 : PV → PV → (Int → R) → R) (c27 : PV → PV → (Int → R) → R) (c31 : PV → (Int → Bool → R) → R) (c32 : PV → PV → (Int → R) → R) (c33 : PV → (PV → R) → R) (c34 : PV → ((List Int) → R) → R) (retF : Bool → R) (NX_w3 : St → R) (p1 : PV) (p2 : PV) (p3 : PV) (n97 : Int) (s104 : List Int) (s106 : List Int) (n149 : Int) : exec (f11_E k c23 c24 c25 c27 c31 c32 c33 c34) f11_cw3 (purgeK (f11_E k c23 c24 c25 c27 c31 c32 c33 c34) f11_cw3 (loopK NX_w3 (kont (f11_E k c23 c24 c25 c27 c31 c32 c33 c34) f11_code [1, 1, 1, 1, 1, 1, 1, 0, 0] (endK (f11_E k c23 c24 c25 c27 c31 c32 c33 c34) Try.f11 [] f11_un retF)))) (f11_hw3_0 p1 p2 p3 n97 s104 s106 n149) = f11_w3b0N k c23 c24 c25 c27 c31 c32 c33 c34 (fun y0 => retF y0) (fun n149 => NX_w3 (f11_hw3_0 p1 p2 p3 n97 s104 s106 n149)) p1 p2 p3 n97 s104 s106 n149 :=
  (f11_w3b0_mem k c23 c24 c25 c27 c31 c32 c33 c34 retF NX_w3 p1 p2 p3 n97 s104 s106 n149)

noncomputable def f11_w3B (k : Nat) (c23 : (Bool → R) → R) (c24 : PV → Int → (Bool → R) → R) (c25 : PV → PV → (Int → R) → R) (c27 : PV → PV → (Int → R) → R) (c31 : PV → (Int → Bool → R) → R) (c32 : PV → PV → (Int → R) → R) (c33 : PV → (PV → R) → R) (c34 : PV → ((List Int) → R) → R) (ret0 : Bool → R) (p1 : PV) (p2 : PV) (p3 : PV) (n97 : Int) (s104 : List Int) (s106 : List Int) (nx : Int → R) : Int → R := (fun s => f11_w3b0N k c23 c24 c25 c27 c31 c32 c33 c34 ret0 (fun n149 => nx n149) p1 p2 p3 n97 s104 s106 s)
noncomputable def f11_w3N (k : Nat) (c23 : (Bool → R) → R) (c24 : PV → Int → (Bool → R) → R) (c25 : PV → PV → (Int → R) → R) (c27 : PV → PV → (Int → R) → R) (c31 : PV → (Int → Bool → R) → R) (c32 : PV → PV → (Int → R) → R) (c33 : PV → (PV → R) → R) (c34 : PV → ((List Int) → R) → R) (ret0 : Bool → R) (p1 : PV) (p2 : PV) (p3 : PV) (n97 : Int) (s104 : List Int) (s106 : List Int) (n149 : Int) : R := loopR (f11_w3B k c23 c24 c25 c27 c31 c32 c33 c34 ret0 p1 p2 p3 n97 s104 s106) k n149
theorem f11_w3_eq (k : Nat) (c23 : (Bool → R) → R) (c24 : PV → Int → (Bool → R) → R) (c25 : PV → PV → (Int → R) → R) (c27 : PV → PV → (Int → R) → R) (c31 : PV → (Int → Bool → R) → R) (c32 : PV → PV → (Int → R) → R) (c33 : PV → (PV → R) → R) (c34 : PV → ((List Int) → R) → R) (retF : Bool → R) (p1 : PV) (p2 : PV) (p3 : PV) (n97 : Int) (s104 : List Int) (s106 : List Int) (n149 : Int) : f11_w3A k c23 c24 c25 c27 c31 c32 c33 c34 retF p1 p2 p3 n97 s104 s106 n149 = f11_w3N k c23 c24 c25 c27 c31 c32 c33 c34 (fun y0 => retF y0) p1 p2 p3 n97 s104 s106 n149 :=
  Eq.mp (by kernel_rfl) (loop_sim (E := (f11_E k c23 c24 c25 c27 c31 c32 c33 c34)) (c := f11_cw3) (K := (kont (f11_E k c23 c24 c25 c27 c31 c32 c33 c34) f11_code [1, 1, 1, 1, 1, 1, 1, 0, 0] (endK (f11_E k c23 c24 c25 c27 c31 c32 c33 c34) Try.f11 [] f11_un retF))) (S := Int) (fun s => f11_hw3_0 p1 p2 p3 n97 s104 s106 s) (f11_w3B k c23 c24 c25 c27 c31 c32 c33 c34 (fun y0 => retF y0) p1 p2 p3 n97 s104 s106) (fun NX s => by
    exact Eq.mp (by kernel_rfl) (f11_w3b0_eq k c23 c24 c25 c27 c31 c32 c33 c34 retF NX p1 p2 p3 n97 s104 s106 s)) k n149)

noncomputable def f11_w1b0 (c23 : (Bool → R) → R) (c24 : PV → Int → (Bool → R) → R) (c25 : PV → PV → (Int → R) → R) (c27 : PV → PV → (Int → R) → R) (c31 : PV → (Int → Bool → R) → R) (c32 : PV → PV → (Int → R) → R) (c33 : PV → (PV → R) → R) (c34 : PV → ((List Int) → R) → R) (ret0 : Bool → R) (w3 : (List Int) → (List Int) → Int → R) (next_w1_0 : Int → Int → R) (p1 : PV) (p2 : PV) (p3 : PV) (n97 : Int) (n98 : Int) : R :=
  bif (decide (n98 < (List.length (PV.els p3) : Int))) then
    bif (true && decide ((0 : Int) ≤ n98) && decide (n98 < (List.length (PV.els p3) : Int))) then
      c24 (List.getD (PV.els p3) (n98).toNat PV.nil) 20 fun b99 =>
      bif b99 then
        ret0 true
      else bif ((decide (n97 < (0 : Int))) == false) then
        bif (true && decide ((0 : Int) ≤ n98) && decide (n98 < (List.length (PV.els p3) : Int))) then
          c33 (List.getD (PV.els p3) (n98).toNat PV.nil) fun p100 =>
          bif (true && decide ((0 : Int) ≤ n97) && decide (n97 < (List.length (PV.els p3) : Int))) then
            c33 (List.getD (PV.els p3) (n97).toNat PV.nil) fun p101 =>
            c32 p100 p101 fun n102 =>
            bif (decide (n102 < (0 : Int))) then
              next_w1_0 n98 (IntKind.wrap .i64 (n98 + (1 : Int)))
            else next_w1_0 n97 (IntKind.wrap .i64 (n98 + (1 : Int)))
          else none
        else none
      else next_w1_0 n98 (IntKind.wrap .i64 (n98 + (1 : Int)))
    else none
  else c33 p1 fun p103 =>
  c34 p103 fun s104 =>
  c33 p2 fun p105 =>
  c34 p105 fun s106 =>
  w3 s104 s106 0

theorem f11_w1b0_mem (k : Nat) (c23 : (Bool → R) → R) (c24 : PV → Int → (Bool → R) → R) (c25 : PV → PV → (Int → R) → R) (c27 : PV → PV → (Int → R) → R) (c31 : PV → (Int → Bool → R) → R) (c32 : PV → PV → (Int → R) → R) (c33 : PV → (PV → R) → R) (c34 : PV → ((List Int) → R) → R) (retF : Bool → R) (NX_w1 : St → R) (p1 : PV) (p2 : PV) (p3 : PV) (n97 : Int) (n98 : Int) : exec (f11_E k c23 c24 c25 c27 c31 c32 c33 c34) f11_cw1 (purgeK (f11_E k c23 c24 c25 c27 c31 c32 c33 c34) f11_cw1 (loopK NX_w1 (kont (f11_E k c23 c24 c25 c27 c31 c32 c33 c34) f11_code [1, 1, 1, 1, 0, 1, 0] (endK (f11_E k c23 c24 c25 c27 c31 c32 c33 c34) Try.f11 [] f11_un retF)))) (f11_hw1_0 p1 p2 p3 n97 n98) = f11_w1b0 c23 c24 c25 c27 c31 c32 c33 c34 (fun y0 => retF y0) (fun s104 s106 n149 => f11_w3A k c23 c24 c25 c27 c31 c32 c33 c34 retF p1 p2 p3 n97 s104 s106 n149) (fun n97 n98 => NX_w1 (f11_hw1_0 p1 p2 p3 n97 n98)) p1 p2 p3 n97 n98 := by kernel_rfl

noncomputable def f11_w1b0N (k : Nat) (c23 : (Bool → R) → R) (c24 : PV → Int → (Bool → R) → R) (c25 : PV → PV → (Int → R) → R) (c27 : PV → PV → (Int → R) → R) (c31 : PV → (Int → Bool → R) → R) (c32 : PV → PV → (Int → R) → R) (c33 : PV → (PV → R) → R) (c34 : PV → ((List Int) → R) → R) (ret0 : Bool → R) (next_w1_0 : Int → Int → R) (p1 : PV) (p2 : PV) (p3 : PV) (n97 : Int) (n98 : Int) : R :=
  f11_w1b0 c23 c24 c25 c27 c31 c32 c33 c34 ret0 (fun s104 s106 n149 => f11_w3N k c23 c24 c25 c27 c31 c32 c33 c34 ret0 p1 p2 p3 n97 s104 s106 n149) next_w1_0 p1 p2 p3 n97 n98
theorem f11_w1b0_eq (k : Nat) (c23 : (Bool → R) → R) (c24 : PV → Int → (Bool → R) → R) (c25 : PV → PV → (Int → R) → R) (c27 : PV → PV → (Int → R) → R) (c31 : PV → (Int → Bool → R) → R) (c32 : PV → PV → (Int → R) → R) (c33 : PV → (PV → R) → R) (c34 : PV → ((List Int) → R) → R) (retF : Bool → R) (NX_w1 : St → R) (p1 : PV) (p2 : PV) (p3 : PV) (n97 : Int) (n98 : Int) : exec (f11_E k c23 c24 c25 c27 c31 c32 c33 c34) f11_cw1 (purgeK (f11_E k c23 c24 c25 c27 c31 c32 c33 c34) f11_cw1 (loopK NX_w1 (kont (f11_E k c23 c24 c25 c27 c31 c32 c33 c34) f11_code [1, 1, 1, 1, 0, 1, 0] (endK (f11_E k c23 c24 c25 c27 c31 c32 c33 c34) Try.f11 [] f11_un retF)))) (f11_hw1_0 p1 p2 p3 n97 n98) = f11_w1b0N k c23 c24 c25 c27 c31 c32 c33 c34 (fun y0 => retF y0) (fun n97 n98 => NX_w1 (f11_hw1_0 p1 p2 p3 n97 n98)) p1 p2 p3 n97 n98 :=
  (f11_w1b0_mem k c23 c24 c25 c27 c31 c32 c33 c34 retF NX_w1 p1 p2 p3 n97 n98).trans (by rw [show (fun s104 s106 n149 => f11_w3A k c23 c24 c25 c27 c31 c32 c33 c34 retF p1 p2 p3 n97 s104 s106 n149) = (fun s104 s106 n149 => f11_w3N k c23 c24 c25 c27 c31 c32 c33 c34 (fun y0 => retF y0) p1 p2 p3 n97 s104 s106 n149) from funext fun s104 => funext fun s106 => funext fun n149 => f11_w3_eq k c23 c24 c25 c27 c31 c32 c33 c34 retF p1 p2 p3 n97 s104 s106 n149]; rfl)

noncomputable def f11_w1B (k : Nat) (c23 : (Bool → R) → R) (c24 : PV → Int → (Bool → R) → R) (c25 : PV → PV → (Int → R) → R) (c27 : PV → PV → (Int → R) → R) (c31 : PV → (Int → Bool → R) → R) (c32 : PV → PV → (Int → R) → R) (c33 : PV → (PV → R) → R) (c34 : PV → ((List Int) → R) → R) (ret0 : Bool → R) (p1 : PV) (p2 : PV) (p3 : PV) (nx : Int × Int → R) : Int × Int → R := (fun s => f11_w1b0N k c23 c24 c25 c27 c31 c32 c33 c34 ret0 (fun n97 n98 => nx (n97, n98)) p1 p2 p3 s.1 s.2)
noncomputable def f11_w1N (k : Nat) (c23 : (Bool → R) → R) (c24 : PV → Int → (Bool → R) → R) (c25 : PV → PV → (Int → R) → R) (c27 : PV → PV → (Int → R) → R) (c31 : PV → (Int → Bool → R) → R) (c32 : PV → PV → (Int → R) → R) (c33 : PV → (PV → R) → R) (c34 : PV → ((List Int) → R) → R) (ret0 : Bool → R) (p1 : PV) (p2 : PV) (p3 : PV) (n97 : Int) (n98 : Int) : R := loopR (f11_w1B k c23 c24 c25 c27 c31 c32 c33 c34 ret0 p1 p2 p3) k (n97, n98)
theorem f11_w1_eq (k : Nat) (c23 : (Bool → R) → R) (c24 : PV → Int → (Bool → R) → R) (c25 : PV → PV → (Int → R) → R) (c27 : PV → PV → (Int → R) → R) (c31 : PV → (Int → Bool → R) → R) (c32 : PV → PV → (Int → R) → R) (c33 : PV → (PV → R) → R) (c34 : PV → ((List Int) → R) → R) (retF : Bool → R) (p1 : PV) (p2 : PV) (p3 : PV) (n97 : Int) (n98 : Int) : f11_w1A k c23 c24 c25 c27 c31 c32 c33 c34 retF p1 p2 p3 n97 n98 = f11_w1N k c23 c24 c25 c27 c31 c32 c33 c34 (fun y0 => retF y0) p1 p2 p3 n97 n98 :=
  Eq.mp (by kernel_rfl) (loop_sim (E := (f11_E k c23 c24 c25 c27 c31 c32 c33 c34)) (c := f11_cw1) (K := (kont (f11_E k c23 c24 c25 c27 c31 c32 c33 c34) f11_code [1, 1, 1, 1, 0, 1, 0] (endK (f11_E k c23 c24 c25 c27 c31 c32 c33 c34) Try.f11 [] f11_un retF))) (S := Int × Int) (fun s => f11_hw1_0 p1 p2 p3 s.1 s.2) (f11_w1B k c23 c24 c25 c27 c31 c32 c33 c34 (fun y0 => retF y0) p1 p2 p3) (fun NX s => by
    exact Eq.mp (by kernel_rfl) (f11_w1b0_eq k c23 c24 c25 c27 c31 c32 c33 c34 retF NX p1 p2 p3 s.1 s.2)) k (n97, n98))

noncomputable def f11_e (c23 : (Bool → R) → R) (c24 : PV → Int → (Bool → R) → R) (c25 : PV → PV → (Int → R) → R) (c27 : PV → PV → (Int → R) → R) (c31 : PV → (Int → Bool → R) → R) (c32 : PV → PV → (Int → R) → R) (c33 : PV → (PV → R) → R) (c34 : PV → ((List Int) → R) → R) (ret0 : Bool → R) (w1 : Int → Int → R) (p1 : PV) (p2 : PV) (p3 : PV) : R :=
  c23 fun b4 =>
  bif (!b4) then
    ret0 false
  else c24 p1 30 fun b5 =>
  bif (b5 == false) then
    c24 p2 30 fun b6 =>
    bif (b6 == false) then
      bif (decide ((12 : Int) < (List.length (PV.els p3) : Int))) then
        ret0 true
      else w1 (-1) 0
    else ret0 true
  else ret0 true

theorem f11_e_mem (k : Nat) (c23 : (Bool → R) → R) (c24 : PV → Int → (Bool → R) → R) (c25 : PV → PV → (Int → R) → R) (c27 : PV → PV → (Int → R) → R) (c31 : PV → (Int → Bool → R) → R) (c32 : PV → PV → (Int → R) → R) (c33 : PV → (PV → R) → R) (c34 : PV → ((List Int) → R) → R) (retF : Bool → R) (p1 : PV) (p2 : PV) (p3 : PV) : exec (f11_E k c23 c24 c25 c27 c31 c32 c33 c34) f11_code (endK (f11_E k c23 c24 c25 c27 c31 c32 c33 c34) Try.f11 [] f11_un retF) ⟨[.val 24 p1, .val 24 p2, .val 22 p3, .undef, .undef, .undef, .undef, .undef, .undef, .undef, .undef, .undef, .undef, .undef, .undef, .undef, .undef, .undef, .undef, .undef, .undef, .undef, .undef, .undef, .undef, .undef, .undef, .undef, .undef, .undef, .undef, .undef, .undef, .undef, .undef, .undef, .undef, .undef, .undef, .undef, .undef, .undef, .undef, .undef, .undef, .undef, .undef, .undef, .undef, .undef, .undef, .undef, .undef, .undef, .undef, .undef, .undef, .undef, .undef, .undef, .undef, .undef, .undef, .undef, .undef, .undef, .undef, .undef, .undef, .undef, .undef, .undef, .undef, .undef, .undef, .undef, .undef, .undef, .undef, .undef, .undef, .undef, .undef, .undef, .undef, .undef, .undef, .undef, .undef, .undef, .undef, .undef, .undef, .undef, .undef, .undef, .undef, .undef, .undef, .undef, .undef, .undef, .undef, .undef, .undef, .undef, .undef, .undef, .undef, .undef, .undef, .undef, .undef, .undef, .undef, .undef, .undef, .undef, .undef, .undef, .undef], []⟩ = f11_e c23 c24 c25 c27 c31 c32 c33 c34 (fun y0 => retF y0) (fun n97 n98 => f11_w1A k c23 c24 c25 c27 c31 c32 c33 c34 retF p1 p2 p3 n97 n98) p1 p2 p3 := by kernel_rfl

noncomputable def f11_N (k : Nat) (c23 : (Bool → R) → R) (c24 : PV → Int → (Bool → R) → R) (c25 : PV → PV → (Int → R) → R) (c27 : PV → PV → (Int → R) → R) (c31 : PV → (Int → Bool → R) → R) (c32 : PV → PV → (Int → R) → R) (c33 : PV → (PV → R) → R) (c34 : PV → ((List Int) → R) → R) (ret0 : Bool → R) (p1 : PV) (p2 : PV) (p3 : PV) : R :=
  f11_e c23 c24 c25 c27 c31 c32 c33 c34 ret0 (fun n97 n98 => f11_w1N k c23 c24 c25 c27 c31 c32 c33 c34 ret0 p1 p2 p3 n97 n98) p1 p2 p3
theorem f11_eq (k : Nat) (c23 : (Bool → R) → R) (c24 : PV → Int → (Bool → R) → R) (c25 : PV → PV → (Int → R) → R) (c27 : PV → PV → (Int → R) → R) (c31 : PV → (Int → Bool → R) → R) (c32 : PV → PV → (Int → R) → R) (c33 : PV → (PV → R) → R) (c34 : PV → ((List Int) → R) → R) (retF : Bool → R) (p1 : PV) (p2 : PV) (p3 : PV) : exec (f11_E k c23 c24 c25 c27 c31 c32 c33 c34) f11_code (endK (f11_E k c23 c24 c25 c27 c31 c32 c33 c34) Try.f11 [] f11_un retF) ⟨[.val 24 p1, .val 24 p2, .val 22 p3, .undef, .undef, .undef, .undef, .undef, .undef, .undef, .undef, .undef, .undef, .undef, .undef, .undef, .undef, .undef, .undef, .undef, .undef, .undef, .undef, .undef, .undef, .undef, .undef, .undef, .undef, .undef, .undef, .undef, .undef, .undef, .undef, .undef, .undef, .undef, .undef, .undef, .undef, .undef, .undef, .undef, .undef, .undef, .undef, .undef, .undef, .undef, .undef, .undef, .undef, .undef, .undef, .undef, .undef, .undef, .undef, .undef, .undef, .undef, .undef, .undef, .undef, .undef, .undef, .undef, .undef, .undef, .undef, .undef, .undef, .undef, .undef, .undef, .undef, .undef, .undef, .undef, .undef, .undef, .undef, .undef, .undef, .undef, .undef, .undef, .undef, .undef, .undef, .undef, .undef, .undef, .undef, .undef, .undef, .undef, .undef, .undef, .undef, .undef, .undef, .undef, .undef, .undef, .undef, .undef, .undef, .undef, .undef, .undef, .undef, .undef, .undef, .undef, .undef, .undef, .undef, .undef, .undef], []⟩ = f11_N k c23 c24 c25 c27 c31 c32 c33 c34 (fun y0 => retF y0) p1 p2 p3 :=
  (f11_e_mem k c23 c24 c25 c27 c31 c32 c33 c34 retF p1 p2 p3).trans (by rw [show (fun n97 n98 => f11_w1A k c23 c24 c25 c27 c31 c32 c33 c34 retF p1 p2 p3 n97 n98) = (fun n97 n98 => f11_w1N k c23 c24 c25 c27 c31 c32 c33 c34 (fun y0 => retF y0) p1 p2 p3 n97 n98) from funext fun n97 => funext fun n98 => f11_w1_eq k c23 c24 c25 c27 c31 c32 c33 c34 retF p1 p2 p3 n97 n98]; rfl)

noncomputable def G11 : Nat → PV → PV → PV → (Bool → R) → R
  | 0, _, _, _, _ => none
  | k + 1, p1, p2, p3, ret0 => f11_N k (G23 k) (G24 k) (G25 k) (G27 k) (G31 k) (G32 k) (G33 k) (G34 k) ret0 p1 p2 p3
theorem S11 : ∀ k, Snd Try.prog 11 f11_I f11_O (fun x ret => G11 k x.1 x.2.1 x.2.2 (fun y0 => ret y0))
  | 0 => snd_none
  | k + 1 => snd_step (E := f11_E k (G23 k) (G24 k) (G25 k) (G27 k) (G31 k) (G32 k) (G33 k) (G34 k)) rfl laidOut noNums (orc_ok (S23 k).o f23_D_ok (orc_ok (S24 k).o f24_D_ok (orc_ok (S25 k).o f25_D_ok (orc_ok (S27 k).o f27_D_ok (orc_ok (S31 k).o f31_D_ok (orc_ok (S32 k).o f32_D_ok (orc_ok (S33 k).o f33_D_ok (orc_ok (S34 k).o f34_D_ok orc0_ok)))))))) (f := 11) (fn := Try.f11) (code := f11_code) Try.func11 (by kernel_rfl) (drawsOk_of laidOut (orc_ok (S23 k).o f23_D_ok (orc_ok (S24 k).o f24_D_ok (orc_ok (S25 k).o f25_D_ok (orc_ok (S27 k).o f27_D_ok (orc_ok (S31 k).o f31_D_ok (orc_ok (S32 k).o f32_D_ok (orc_ok (S33 k).o f33_D_ok (orc_ok (S34 k).o f34_D_ok orc0_ok)))))))) mixed (by kernel_rfl)) f11_un f11_un_ok [] (fun _ => rfl)
      (fun x ret => f11_eq k (G23 k) (G24 k) (G25 k) (G27 k) (G31 k) (G32 k) (G33 k) (G34 k) ret x.1 x.2.1 x.2.2)

end Go.Proofs.Ytbmhbnkejgjfdaa
