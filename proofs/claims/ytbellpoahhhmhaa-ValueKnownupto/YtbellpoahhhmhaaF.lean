/- Functions of the program as Lean functions, each tied to the program by the kernel: catchpolelaw10.ValueKnown -/
import Derived.Test.YtbellpoahhhmhaaXC
import Derived.Test.YtbellpoahhhmhaaProg
import Derived.KernelRfl
import Derived.Test.YtbellpoahhhmhaaBld
set_option linter.unusedVariables false
set_option maxRecDepth 100000
namespace Go.Proofs.Ytbellpoahhhmhaa
open Go Go.X
theorem laidOut : laidOutB Try.prog = true := by kernel_rfl
theorem noNums : noNum Try.prog = true := by kernel_rfl
theorem mixed : Try.prog.follows .mixedOrders = true := by kernel_rfl
noncomputable def ownPars : FuncId → Nat → Bool := fun f i => (f == 63 && i == 0)

/- catchpole/catchpolelaw10.two -/
noncomputable def f30_I : Int × Int → List SV × Obs := fun x => ([.int .u8 x.1, .int .u8 x.2], [])
noncomputable def f30_D : List SV → Obs → Option (Int × Int)
  | [.int .u8 n1, .int .u8 n2], [] => some (n1, n2)
  | _, _ => none
theorem f30_D_ok (args : List SV) (B : Obs) (x : Int × Int) (h : f30_D args B = some x) : f30_I x = (args, B) := by
  unfold f30_D at h
  split at h
  · injection h with h; subst h; rfl
  · cases h
noncomputable def f30_O : PV → Out := (fun y => ([.val 30 y], []))
noncomputable def f30_un : Out → Option (PV)
  | ([.val 30 y0], []) => some y0
  | _ => none
theorem f30_un_ok (o : Out) (y : PV) (h : f30_un o = some y) : o = f30_O y := by
  unfold f30_un at h
  split at h
  · injection h with h; subst h; rfl
  · cases h
noncomputable def f30_msk : Nat → Option (List Nat) := fun key =>  none
noncomputable def f30_C : Oracle := orc0
noncomputable def f30_E (k : Nat) : Env := { P := Try.prog, nilOwn := fun d => false, fldOwn := fun d i => false, ownPar := ownPars, ownRet := false, mask := f30_msk, fuel := k, C := f30_C }
noncomputable def f30_code : Code := Try.f30.body.getD .skip
noncomputable def f30_e (ret0 : PV → R) (n1 : Int) (n2 : Int) : R :=
  ret0 (PV.agg [(PV.int 3), (PV.int 0), (PV.list [(PV.agg [(PV.int 2), (PV.int n1), (PV.list [])]), (PV.agg [(PV.int 2), (PV.int n2), (PV.list [])])])])

theorem f30_e_mem (k : Nat) (retF : PV → R) (n1 : Int) (n2 : Int) : exec (f30_E k) f30_code (endK (f30_E k) Try.f30 [] f30_un retF) ⟨[.int .u8 n1, .int .u8 n2, .undef, .undef, .undef, .undef, .undef, .undef, .undef, .undef, .undef], []⟩ = f30_e (fun y0 => retF y0) n1 n2 := by kernel_rfl

noncomputable def f30_N (k : Nat) (ret0 : PV → R) (n1 : Int) (n2 : Int) : R :=
  f30_e ret0 n1 n2
theorem f30_eq (k : Nat) (retF : PV → R) (n1 : Int) (n2 : Int) : exec (f30_E k) f30_code (endK (f30_E k) Try.f30 [] f30_un retF) ⟨[.int .u8 n1, .int .u8 n2, .undef, .undef, .undef, .undef, .undef, .undef, .undef, .undef, .undef], []⟩ = f30_N k (fun y0 => retF y0) n1 n2 :=
  (f30_e_mem k retF n1 n2)

noncomputable def G30 : Nat → Int → Int → (PV → R) → R
  | 0, _, _, _ => none
  | k + 1, n1, n2, ret0 => f30_N k  ret0 n1 n2
theorem S30 : ∀ k, Snd Try.prog 30 f30_I f30_O (fun x ret => G30 k x.1 x.2 (fun y0 => ret y0))
  | 0 => snd_none
  | k + 1 => snd_step (E := f30_E k ) rfl laidOut noNums orc0_ok (f := 30) (fn := Try.f30) (code := f30_code) Try.func30 (by kernel_rfl) (drawsOk_of laidOut orc0_ok mixed (by kernel_rfl)) f30_un f30_un_ok [] (fun _ => rfl)
      (fun x ret => f30_eq k  ret x.1 x.2)

/- (*strings.Builder).copyCheck -/
noncomputable def f92_I : PV × (List PV) → List SV × Obs := fun x => ([.ptr 2000000 []], [(2000000, .box 76 (.agg 76 [.val 74 x.1, .own 43 2000001])), (2000001, .row 5 x.2)])
noncomputable def f92_D : List SV → Obs → Option (PV × (List PV))
  | [.ptr 2000000 []], [(2000000, .box 76 (.agg 76 [.val 74 p1, .own 43 2000001])), (2000001, .row 5 l2)] => some (p1, l2)
  | _, _ => none
theorem f92_D_ok (args : List SV) (B : Obs) (x : PV × (List PV)) (h : f92_D args B = some x) : f92_I x = (args, B) := by
  unfold f92_D at h
  split at h
  · injection h with h; subst h; rfl
  · cases h
noncomputable def f92_O : (List PV) → Out := (fun y => ([], [(2000000, .box 76 (.agg 76 [.ptr 2000000 [], .own 43 2000001])), (2000001, .row 5 y)]))
noncomputable def f92_un : Out → Option ((List PV))
  | ([], [(2000000, .box 76 (.agg 76 [.ptr 2000000 [], .own 43 2000001])), (2000001, .row 5 y0)]) => some y0
  | _ => none
theorem f92_un_ok (o : Out) (y : (List PV)) (h : f92_un o = some y) : o = f92_O y := by
  unfold f92_un at h
  split at h
  · injection h with h; subst h; rfl
  · cases h

noncomputable def G92 : Nat → PV → (List PV) → ((List PV) → R) → R
  | _, p, l, ret0 => bif PV.isNil p then ret0 l else none
theorem S92 : ∀ k, SndO Try.prog 92 f92_I f92_O (fun x ret => G92 k x.1 x.2 (fun y0 => ret y0)) := fun k => Bld.fresh

/- (*strings.Builder).WriteString -/
noncomputable def f82_I : (List Int) × PV × (List PV) → List SV × Obs := fun x => ([.ptr 2000000 [], .str x.1], [(2000000, .box 76 (.agg 76 [.val 74 x.2.1, .own 43 2000001])), (2000001, .row 5 x.2.2)])
noncomputable def f82_D : List SV → Obs → Option ((List Int) × PV × (List PV))
  | [.ptr 2000000 [], .str s1], [(2000000, .box 76 (.agg 76 [.val 74 p2, .own 43 2000001])), (2000001, .row 5 l3)] => some (s1, p2, l3)
  | _, _ => none
theorem f82_D_ok (args : List SV) (B : Obs) (x : (List Int) × PV × (List PV)) (h : f82_D args B = some x) : f82_I x = (args, B) := by
  unfold f82_D at h
  split at h
  · injection h with h; subst h; rfl
  · cases h
noncomputable def f82_O : Int × PV × (List PV) → Out := (fun y => ([.int .i64 y.1, .val 103 y.2.1], [(2000000, .box 76 (.agg 76 [.ptr 2000000 [], .own 43 2000001])), (2000001, .row 5 y.2.2)]))
noncomputable def f82_un : Out → Option (Int × PV × (List PV))
  | ([.int .i64 y0, .val 103 y1], [(2000000, .box 76 (.agg 76 [.ptr 2000000 [], .own 43 2000001])), (2000001, .row 5 y2)]) => some (y0, y1, y2)
  | _ => none
theorem f82_un_ok (o : Out) (y : Int × PV × (List PV)) (h : f82_un o = some y) : o = f82_O y := by
  unfold f82_un at h
  split at h
  · injection h with h; subst h; rfl
  · cases h
noncomputable def f82_msk : Nat → Option (List Nat) := fun key =>  none
noncomputable def f82_C (c92 : PV → (List PV) → ((List PV) → R) → R) : Oracle := orc 92 f92_D f92_O (fun x ret => c92 x.1 x.2 (fun y0 => ret y0)) <| orc0
noncomputable def f82_E (k : Nat) (c92 : PV → (List PV) → ((List PV) → R) → R) : Env := { P := Try.prog, nilOwn := fun d => false, fldOwn := fun d i => false, ownPar := ownPars, ownRet := false, mask := f82_msk, fuel := k, C := f82_C c92 }
noncomputable def f82_code : Code := Try.f82.body.getD .skip
noncomputable def f82_e (c92 : PV → (List PV) → ((List PV) → R) → R) (ret0 : Int → PV → (List PV) → R) (s1 : List Int) (p2 : PV) (l3 : List PV) : R :=
  c92 p2 l3 fun l4 =>
  bif (true && roomy (List.length l4 + List.length (List.map PV.int s1)) 1) then
    ret0 (List.length s1 : Int) PV.nil (l4 ++ (List.map PV.int s1))
  else none

theorem f82_e_mem (k : Nat) (c92 : PV → (List PV) → ((List PV) → R) → R) (retF : Int × PV × (List PV) → R) (s1 : List Int) (p2 : PV) (l3 : List PV) : exec (f82_E k c92) f82_code (endK (f82_E k c92) Try.f82 [2000000, 2000001] f82_un retF) ⟨[.ptr 2000000 [], .str s1, .undef, .undef, .undef, .undef, .undef, .undef, .undef, .undef, .undef, .undef, .undef, .undef, .undef, .undef, .undef, .undef, .undef], [(2000000, .box 76 (.agg 76 [.val 74 p2, .own 43 2000001])), (2000001, .row 5 l3)]⟩ = f82_e c92 (fun y0 y1 y2 => retF (y0, y1, y2)) s1 p2 l3 := by kernel_rfl

noncomputable def f82_N (k : Nat) (c92 : PV → (List PV) → ((List PV) → R) → R) (ret0 : Int → PV → (List PV) → R) (s1 : List Int) (p2 : PV) (l3 : List PV) : R :=
  f82_e c92 ret0 s1 p2 l3
theorem f82_eq (k : Nat) (c92 : PV → (List PV) → ((List PV) → R) → R) (retF : Int × PV × (List PV) → R) (s1 : List Int) (p2 : PV) (l3 : List PV) : exec (f82_E k c92) f82_code (endK (f82_E k c92) Try.f82 [2000000, 2000001] f82_un retF) ⟨[.ptr 2000000 [], .str s1, .undef, .undef, .undef, .undef, .undef, .undef, .undef, .undef, .undef, .undef, .undef, .undef, .undef, .undef, .undef, .undef, .undef], [(2000000, .box 76 (.agg 76 [.val 74 p2, .own 43 2000001])), (2000001, .row 5 l3)]⟩ = f82_N k c92 (fun y0 y1 y2 => retF (y0, y1, y2)) s1 p2 l3 :=
  (f82_e_mem k c92 retF s1 p2 l3)

noncomputable def G82 : Nat → (List Int) → PV → (List PV) → (Int → PV → (List PV) → R) → R
  | 0, _, _, _, _ => none
  | k + 1, s1, p2, l3, ret0 => f82_N k (G92 k) ret0 s1 p2 l3
theorem S82 : ∀ k, Snd Try.prog 82 f82_I f82_O (fun x ret => G82 k x.1 x.2.1 x.2.2 (fun y0 y1 y2 => ret (y0, y1, y2)))
  | 0 => snd_none
  | k + 1 => snd_step (E := f82_E k (G92 k)) rfl laidOut noNums (orc_ok (S92 k).o f92_D_ok orc0_ok) (f := 82) (fn := Try.f82) (code := f82_code) Try.func82 (by kernel_rfl) (drawsOk_of laidOut (orc_ok (S92 k).o f92_D_ok orc0_ok) mixed (by kernel_rfl)) f82_un f82_un_ok [2000000, 2000001] (fun _ => rfl)
      (fun x ret => f82_eq k (G92 k) ret x.1 x.2.1 x.2.2)

/- catchpole/value.Kids -/
noncomputable def f59_I : PV → List SV × Obs := fun x => ([.val 30 x], [])
noncomputable def f59_D : List SV → Obs → Option (PV)
  | [.val 30 p1], [] => some p1
  | _, _ => none
theorem f59_D_ok (args : List SV) (B : Obs) (x : PV) (h : f59_D args B = some x) : f59_I x = (args, B) := by
  unfold f59_D at h
  split at h
  · injection h with h; subst h; rfl
  · cases h
noncomputable def f59_O : PV → Out := (fun y => ([.val 28 y], []))
noncomputable def f59_un : Out → Option (PV)
  | ([.val 28 y0], []) => some y0
  | _ => none
theorem f59_un_ok (o : Out) (y : PV) (h : f59_un o = some y) : o = f59_O y := by
  unfold f59_un at h
  split at h
  · injection h with h; subst h; rfl
  · cases h
noncomputable def f59_msk : Nat → Option (List Nat) := fun key =>  none
noncomputable def f59_C : Oracle := orc0
noncomputable def f59_E (k : Nat) : Env := { P := Try.prog, nilOwn := fun d => false, fldOwn := fun d i => false, ownPar := ownPars, ownRet := false, mask := f59_msk, fuel := k, C := f59_C }
noncomputable def f59_code : Code := Try.f59.body.getD .skip
noncomputable def f59_e (ret0 : PV → R) (p1 : PV) : R :=
  bif (decide ((PV.num (PV.fld p1 0)) = (3 : Int))) then
    let n2 : Int := (if (List.length (PV.els (PV.fld p1 2)) : Int) < (2 : Int) then (List.length (PV.els (PV.fld p1 2)) : Int) else 2)
    bif (decide ((0 : Int) ≤ (0 : Int)) && decide ((0 : Int) ≤ n2) && decide (n2 ≤ (List.length (PV.els (PV.fld p1 2)) : Int))) then
      ret0 (PV.list (List.drop ((0 : Int)).toNat (List.take (n2).toNat (PV.els (PV.fld p1 2)))))
    else none
  else bif (decide ((PV.num (PV.fld p1 0)) = (4 : Int))) then
    let n3 : Int := (if (List.length (PV.els (PV.fld p1 2)) : Int) < (1 : Int) then (List.length (PV.els (PV.fld p1 2)) : Int) else 1)
    bif (decide ((0 : Int) ≤ (0 : Int)) && decide ((0 : Int) ≤ n3) && decide (n3 ≤ (List.length (PV.els (PV.fld p1 2)) : Int))) then
      ret0 (PV.list (List.drop ((0 : Int)).toNat (List.take (n3).toNat (PV.els (PV.fld p1 2)))))
    else none
  else bif (decide ((PV.num (PV.fld p1 0)) = (5 : Int))) then
    let n4 : Int := (if (List.length (PV.els (PV.fld p1 2)) : Int) < (1 : Int) then (List.length (PV.els (PV.fld p1 2)) : Int) else 1)
    bif (decide ((0 : Int) ≤ (0 : Int)) && decide ((0 : Int) ≤ n4) && decide (n4 ≤ (List.length (PV.els (PV.fld p1 2)) : Int))) then
      ret0 (PV.list (List.drop ((0 : Int)).toNat (List.take (n4).toNat (PV.els (PV.fld p1 2)))))
    else none
  else bif (decide ((PV.num (PV.fld p1 0)) = (7 : Int))) then
    let n5 : Int := (if (List.length (PV.els (PV.fld p1 2)) : Int) < (1 : Int) then (List.length (PV.els (PV.fld p1 2)) : Int) else 1)
    bif (decide ((0 : Int) ≤ (0 : Int)) && decide ((0 : Int) ≤ n5) && decide (n5 ≤ (List.length (PV.els (PV.fld p1 2)) : Int))) then
      ret0 (PV.list (List.drop ((0 : Int)).toNat (List.take (n5).toNat (PV.els (PV.fld p1 2)))))
    else none
  else bif (decide ((PV.num (PV.fld p1 0)) = (6 : Int))) then
    let n6 : Int := (if (List.length (PV.els (PV.fld p1 2)) : Int) < (List.length (PV.els (PV.fld p1 2)) : Int) then (List.length (PV.els (PV.fld p1 2)) : Int) else (List.length (PV.els (PV.fld p1 2)) : Int))
    bif (decide ((0 : Int) ≤ (0 : Int)) && decide ((0 : Int) ≤ n6) && decide (n6 ≤ (List.length (PV.els (PV.fld p1 2)) : Int))) then
      ret0 (PV.list (List.drop ((0 : Int)).toNat (List.take (n6).toNat (PV.els (PV.fld p1 2)))))
    else none
  else let n7 : Int := (if (List.length (PV.els (PV.fld p1 2)) : Int) < (0 : Int) then (List.length (PV.els (PV.fld p1 2)) : Int) else 0)
  bif (decide ((0 : Int) ≤ (0 : Int)) && decide ((0 : Int) ≤ n7) && decide (n7 ≤ (List.length (PV.els (PV.fld p1 2)) : Int))) then
    ret0 (PV.list (List.drop ((0 : Int)).toNat (List.take (n7).toNat (PV.els (PV.fld p1 2)))))
  else none

theorem f59_e_mem (k : Nat) (retF : PV → R) (p1 : PV) : exec (f59_E k) f59_code (endK (f59_E k) Try.f59 [] f59_un retF) ⟨[.val 30 p1, .undef, .undef, .undef, .undef, .undef, .undef, .undef, .undef, .undef, .undef, .undef, .undef, .undef, .undef, .undef, .undef, .undef, .undef, .undef, .undef, .undef, .undef, .undef, .undef], []⟩ = f59_e (fun y0 => retF y0) p1 := by kernel_rfl

noncomputable def f59_N (k : Nat) (ret0 : PV → R) (p1 : PV) : R :=
  f59_e ret0 p1
theorem f59_eq (k : Nat) (retF : PV → R) (p1 : PV) : exec (f59_E k) f59_code (endK (f59_E k) Try.f59 [] f59_un retF) ⟨[.val 30 p1, .undef, .undef, .undef, .undef, .undef, .undef, .undef, .undef, .undef, .undef, .undef, .undef, .undef, .undef, .undef, .undef, .undef, .undef, .undef, .undef, .undef, .undef, .undef, .undef], []⟩ = f59_N k (fun y0 => retF y0) p1 :=
  (f59_e_mem k retF p1)

noncomputable def G59 : Nat → PV → (PV → R) → R
  | 0, _, _ => none
  | k + 1, p1, ret0 => f59_N k  ret0 p1
theorem S59 : ∀ k, Snd Try.prog 59 f59_I f59_O (fun x ret => G59 k x (fun y0 => ret y0))
  | 0 => snd_none
  | k + 1 => snd_step (E := f59_E k ) rfl laidOut noNums orc0_ok (f := 59) (fn := Try.f59) (code := f59_code) Try.func59 (by kernel_rfl) (drawsOk_of laidOut orc0_ok mixed (by kernel_rfl)) f59_un f59_un_ok [] (fun _ => rfl)
      (fun x ret => f59_eq k  ret x)

/- (*strings.Builder).copyCheck -/
noncomputable def f92v1_I : (List PV) → List SV × Obs := fun x => ([.ptr 2000000 []], [(2000000, .box 76 (.agg 76 [.ptr 2000000 [], .own 43 2000001])), (2000001, .row 5 x)])
noncomputable def f92v1_D : List SV → Obs → Option ((List PV))
  | [.ptr 2000000 []], [(2000000, .box 76 (.agg 76 [.ptr 2000000 [], .own 43 2000001])), (2000001, .row 5 l1)] => some l1
  | _, _ => none
theorem f92v1_D_ok (args : List SV) (B : Obs) (x : (List PV)) (h : f92v1_D args B = some x) : f92v1_I x = (args, B) := by
  unfold f92v1_D at h
  split at h
  · injection h with h; subst h; rfl
  · cases h
noncomputable def f92v1_O : (List PV) → Out := (fun y => ([], [(2000000, .box 76 (.agg 76 [.ptr 2000000 [], .own 43 2000001])), (2000001, .row 5 y)]))
noncomputable def f92v1_un : Out → Option ((List PV))
  | ([], [(2000000, .box 76 (.agg 76 [.ptr 2000000 [], .own 43 2000001])), (2000001, .row 5 y0)]) => some y0
  | _ => none
theorem f92v1_un_ok (o : Out) (y : (List PV)) (h : f92v1_un o = some y) : o = f92v1_O y := by
  unfold f92v1_un at h
  split at h
  · injection h with h; subst h; rfl
  · cases h

noncomputable def G92v1 : Nat → (List PV) → ((List PV) → R) → R
  | _, l, ret0 => ret0 l
theorem S92v1 : ∀ k, SndO Try.prog 92 f92v1_I f92v1_O (fun x ret => G92v1 k x (fun y0 => ret y0)) := fun k => Bld.used

/- (*strings.Builder).WriteString -/
noncomputable def f82v1_I : (List Int) × (List PV) → List SV × Obs := fun x => ([.ptr 2000000 [], .str x.1], [(2000000, .box 76 (.agg 76 [.ptr 2000000 [], .own 43 2000001])), (2000001, .row 5 x.2)])
noncomputable def f82v1_D : List SV → Obs → Option ((List Int) × (List PV))
  | [.ptr 2000000 [], .str s1], [(2000000, .box 76 (.agg 76 [.ptr 2000000 [], .own 43 2000001])), (2000001, .row 5 l2)] => some (s1, l2)
  | _, _ => none
theorem f82v1_D_ok (args : List SV) (B : Obs) (x : (List Int) × (List PV)) (h : f82v1_D args B = some x) : f82v1_I x = (args, B) := by
  unfold f82v1_D at h
  split at h
  · injection h with h; subst h; rfl
  · cases h
noncomputable def f82v1_O : Int × PV × (List PV) → Out := (fun y => ([.int .i64 y.1, .val 103 y.2.1], [(2000000, .box 76 (.agg 76 [.ptr 2000000 [], .own 43 2000001])), (2000001, .row 5 y.2.2)]))
noncomputable def f82v1_un : Out → Option (Int × PV × (List PV))
  | ([.int .i64 y0, .val 103 y1], [(2000000, .box 76 (.agg 76 [.ptr 2000000 [], .own 43 2000001])), (2000001, .row 5 y2)]) => some (y0, y1, y2)
  | _ => none
theorem f82v1_un_ok (o : Out) (y : Int × PV × (List PV)) (h : f82v1_un o = some y) : o = f82v1_O y := by
  unfold f82v1_un at h
  split at h
  · injection h with h; subst h; rfl
  · cases h
noncomputable def f82v1_msk : Nat → Option (List Nat) := fun key =>  none
noncomputable def f82v1_C (c92v1 : (List PV) → ((List PV) → R) → R) : Oracle := orc 92 f92v1_D f92v1_O (fun x ret => c92v1 x (fun y0 => ret y0)) <| orc0
noncomputable def f82v1_E (k : Nat) (c92v1 : (List PV) → ((List PV) → R) → R) : Env := { P := Try.prog, nilOwn := fun d => false, fldOwn := fun d i => false, ownPar := ownPars, ownRet := false, mask := f82v1_msk, fuel := k, C := f82v1_C c92v1 }
noncomputable def f82v1_code : Code := Try.f82.body.getD .skip
noncomputable def f82v1_e (c92v1 : (List PV) → ((List PV) → R) → R) (ret0 : Int → PV → (List PV) → R) (s1 : List Int) (l2 : List PV) : R :=
  c92v1 l2 fun l3 =>
  bif (true && roomy (List.length l3 + List.length (List.map PV.int s1)) 1) then
    ret0 (List.length s1 : Int) PV.nil (l3 ++ (List.map PV.int s1))
  else none

theorem f82v1_e_mem (k : Nat) (c92v1 : (List PV) → ((List PV) → R) → R) (retF : Int × PV × (List PV) → R) (s1 : List Int) (l2 : List PV) : exec (f82v1_E k c92v1) f82v1_code (endK (f82v1_E k c92v1) Try.f82 [2000000, 2000001] f82v1_un retF) ⟨[.ptr 2000000 [], .str s1, .undef, .undef, .undef, .undef, .undef, .undef, .undef, .undef, .undef, .undef, .undef, .undef, .undef, .undef, .undef, .undef, .undef], [(2000000, .box 76 (.agg 76 [.ptr 2000000 [], .own 43 2000001])), (2000001, .row 5 l2)]⟩ = f82v1_e c92v1 (fun y0 y1 y2 => retF (y0, y1, y2)) s1 l2 := by kernel_rfl

noncomputable def f82v1_N (k : Nat) (c92v1 : (List PV) → ((List PV) → R) → R) (ret0 : Int → PV → (List PV) → R) (s1 : List Int) (l2 : List PV) : R :=
  f82v1_e c92v1 ret0 s1 l2
theorem f82v1_eq (k : Nat) (c92v1 : (List PV) → ((List PV) → R) → R) (retF : Int × PV × (List PV) → R) (s1 : List Int) (l2 : List PV) : exec (f82v1_E k c92v1) f82v1_code (endK (f82v1_E k c92v1) Try.f82 [2000000, 2000001] f82v1_un retF) ⟨[.ptr 2000000 [], .str s1, .undef, .undef, .undef, .undef, .undef, .undef, .undef, .undef, .undef, .undef, .undef, .undef, .undef, .undef, .undef, .undef, .undef], [(2000000, .box 76 (.agg 76 [.ptr 2000000 [], .own 43 2000001])), (2000001, .row 5 l2)]⟩ = f82v1_N k c92v1 (fun y0 y1 y2 => retF (y0, y1, y2)) s1 l2 :=
  (f82v1_e_mem k c92v1 retF s1 l2)

noncomputable def G82v1 : Nat → (List Int) → (List PV) → (Int → PV → (List PV) → R) → R
  | 0, _, _, _ => none
  | k + 1, s1, l2, ret0 => f82v1_N k (G92v1 k) ret0 s1 l2
theorem S82v1 : ∀ k, Snd Try.prog 82 f82v1_I f82v1_O (fun x ret => G82v1 k x.1 x.2 (fun y0 y1 y2 => ret (y0, y1, y2)))
  | 0 => snd_none
  | k + 1 => snd_step (E := f82v1_E k (G92v1 k)) rfl laidOut noNums (orc_ok (S92v1 k).o f92v1_D_ok orc0_ok) (f := 82) (fn := Try.f82) (code := f82v1_code) Try.func82 (by kernel_rfl) (drawsOk_of laidOut (orc_ok (S92v1 k).o f92v1_D_ok orc0_ok) mixed (by kernel_rfl)) f82v1_un f82v1_un_ok [2000000, 2000001] (fun _ => rfl)
      (fun x ret => f82v1_eq k (G92v1 k) ret x.1 x.2)

/- catchpole/value.text -/
noncomputable def f60v1_I : PV × (List PV) → List SV × Obs := fun x => ([.ptr 2000000 [], .val 30 x.1], [(2000000, .box 76 (.agg 76 [.ptr 2000000 [], .own 43 2000001])), (2000001, .row 5 x.2)])
noncomputable def f60v1_D : List SV → Obs → Option (PV × (List PV))
  | [.ptr 2000000 [], .val 30 p1], [(2000000, .box 76 (.agg 76 [.ptr 2000000 [], .own 43 2000001])), (2000001, .row 5 l2)] => some (p1, l2)
  | _, _ => none
theorem f60v1_D_ok (args : List SV) (B : Obs) (x : PV × (List PV)) (h : f60v1_D args B = some x) : f60v1_I x = (args, B) := by
  unfold f60v1_D at h
  split at h
  · injection h with h; subst h; rfl
  · cases h
noncomputable def f60v1_O : (List PV) → Out := (fun y => ([], [(2000000, .box 76 (.agg 76 [.ptr 2000000 [], .own 43 2000001])), (2000001, .row 5 y)]))
noncomputable def f60v1_un : Out → Option ((List PV))
  | ([], [(2000000, .box 76 (.agg 76 [.ptr 2000000 [], .own 43 2000001])), (2000001, .row 5 y0)]) => some y0
  | _ => none
theorem f60v1_un_ok (o : Out) (y : (List PV)) (h : f60v1_un o = some y) : o = f60v1_O y := by
  unfold f60v1_un at h
  split at h
  · injection h with h; subst h; rfl
  · cases h
noncomputable def f60v1_msk : Nat → Option (List Nat) := fun key => bif key == 63 then some [0, 5, 49, 50, 51] else none
noncomputable def f60v1_C (c59 : PV → (PV → R) → R) (c60v1 : PV → (List PV) → ((List PV) → R) → R) (c82v1 : (List Int) → (List PV) → (Int → PV → (List PV) → R) → R) : Oracle := orc 59 f59_D f59_O (fun x ret => c59 x (fun y0 => ret y0)) <| orc 60 f60v1_D f60v1_O (fun x ret => c60v1 x.1 x.2 (fun y0 => ret y0)) <| orc 82 f82v1_D f82v1_O (fun x ret => c82v1 x.1 x.2 (fun y0 y1 y2 => ret (y0, y1, y2))) <| orc0
noncomputable def f60v1_E (k : Nat) (c59 : PV → (PV → R) → R) (c60v1 : PV → (List PV) → ((List PV) → R) → R) (c82v1 : (List Int) → (List PV) → (Int → PV → (List PV) → R) → R) : Env := { P := Try.prog, nilOwn := fun d => false, fldOwn := fun d i => false, ownPar := ownPars, ownRet := false, mask := f60v1_msk, fuel := k, C := f60v1_C c59 c60v1 c82v1 }
noncomputable def f60v1_code : Code := Try.f60.body.getD .skip
noncomputable def f60v1_cw1 : Code := subC f60v1_code [1, 1, 1, 1, 0, 1, 0, 0]
noncomputable def f60v1_hw1_0 (p6 : PV) (n11 : Int) (l12 : List PV) : St := ⟨[.ptr 2000000 [], .dead, .dead, .dead, .dead, .str [], .dead, .dead, .dead, .dead, .dead, .dead, .dead, .dead, .dead, .dead, .dead, .dead, .dead, .dead, .dead, .dead, .dead, .dead, .dead, .dead, .dead, .dead, .dead, .dead, .dead, .dead, .dead, .dead, .dead, .dead, .dead, .dead, .dead, .dead, .dead, .dead, .dead, .dead, .dead, .dead, .dead, .dead, .dead, .val 28 p6, .int .i64 (List.length (PV.els p6) : Int), .int .i64 n11, .dead, .dead, .dead, .dead, .dead, .dead, .dead, .dead, .dead, .dead, .dead, .dead, .dead, .dead, .dead], [(2000000, .box 76 (.agg 76 [.ptr 2000000 [], .own 43 2000001])), (2000001, .row 5 l12)]⟩
noncomputable def f60v1_w1A (k : Nat) (c59 : PV → (PV → R) → R) (c60v1 : PV → (List PV) → ((List PV) → R) → R) (c82v1 : (List Int) → (List PV) → (Int → PV → (List PV) → R) → R) (retF : (List PV) → R) (p6 : PV) (n11 : Int) (l12 : List PV) : R := loopM (f60v1_E k c59 c60v1 c82v1) f60v1_cw1 (kont (f60v1_E k c59 c60v1 c82v1) f60v1_code [1, 1, 1, 1, 0, 1, 0] (endK (f60v1_E k c59 c60v1 c82v1) Try.f60 [2000000, 2000001] f60v1_un retF)) k (f60v1_hw1_0 p6 n11 l12)
noncomputable def f60v1_w1b0 (c59 : PV → (PV → R) → R) (c60v1 : PV → (List PV) → ((List PV) → R) → R) (c82v1 : (List Int) → (List PV) → (Int → PV → (List PV) → R) → R) (ret0 : (List PV) → R) (next_w1_0 : Int → (List PV) → R) (p6 : PV) (n11 : Int) (l12 : List PV) : R :=
  bif (decide (n11 < (List.length (PV.els p6) : Int))) then
    bif (true && decide ((0 : Int) ≤ n11) && decide (n11 < (List.length (PV.els p6) : Int))) then
      bif (decide ((0 : Int) < n11)) then
        c82v1 [44] l12 fun n13 p14 l15 =>
        c60v1 (List.getD (PV.els p6) (n11).toNat PV.nil) l15 fun l16 =>
        next_w1_0 (IntKind.wrap .i64 (n11 + (1 : Int))) l16
      else c60v1 (List.getD (PV.els p6) (n11).toNat PV.nil) l12 fun l17 =>
      next_w1_0 (IntKind.wrap .i64 (n11 + (1 : Int))) l17
    else none
  else c82v1 [] l12 fun n18 p19 l20 =>
  ret0 l20

theorem f60v1_w1b0_mem (k : Nat) (c59 : PV → (PV → R) → R) (c60v1 : PV → (List PV) → ((List PV) → R) → R) (c82v1 : (List Int) → (List PV) → (Int → PV → (List PV) → R) → R) (retF : (List PV) → R) (NX_w1 : St → R) (p6 : PV) (n11 : Int) (l12 : List PV) : exec (f60v1_E k c59 c60v1 c82v1) f60v1_cw1 (purgeK (f60v1_E k c59 c60v1 c82v1) f60v1_cw1 (loopK NX_w1 (kont (f60v1_E k c59 c60v1 c82v1) f60v1_code [1, 1, 1, 1, 0, 1, 0] (endK (f60v1_E k c59 c60v1 c82v1) Try.f60 [2000000, 2000001] f60v1_un retF)))) (f60v1_hw1_0 p6 n11 l12) = f60v1_w1b0 c59 c60v1 c82v1 (fun y0 => retF y0) (fun n11 l12 => NX_w1 (f60v1_hw1_0 p6 n11 l12)) p6 n11 l12 := by kernel_rfl

noncomputable def f60v1_w1b0N (k : Nat) (c59 : PV → (PV → R) → R) (c60v1 : PV → (List PV) → ((List PV) → R) → R) (c82v1 : (List Int) → (List PV) → (Int → PV → (List PV) → R) → R) (ret0 : (List PV) → R) (next_w1_0 : Int → (List PV) → R) (p6 : PV) (n11 : Int) (l12 : List PV) : R :=
  f60v1_w1b0 c59 c60v1 c82v1 ret0 next_w1_0 p6 n11 l12
theorem f60v1_w1b0_eq (k : Nat) (c59 : PV → (PV → R) → R) (c60v1 : PV → (List PV) → ((List PV) → R) → R) (c82v1 : (List Int) → (List PV) → (Int → PV → (List PV) → R) → R) (retF : (List PV) → R) (NX_w1 : St → R) (p6 : PV) (n11 : Int) (l12 : List PV) : exec (f60v1_E k c59 c60v1 c82v1) f60v1_cw1 (purgeK (f60v1_E k c59 c60v1 c82v1) f60v1_cw1 (loopK NX_w1 (kont (f60v1_E k c59 c60v1 c82v1) f60v1_code [1, 1, 1, 1, 0, 1, 0] (endK (f60v1_E k c59 c60v1 c82v1) Try.f60 [2000000, 2000001] f60v1_un retF)))) (f60v1_hw1_0 p6 n11 l12) = f60v1_w1b0N k c59 c60v1 c82v1 (fun y0 => retF y0) (fun n11 l12 => NX_w1 (f60v1_hw1_0 p6 n11 l12)) p6 n11 l12 :=
  (f60v1_w1b0_mem k c59 c60v1 c82v1 retF NX_w1 p6 n11 l12)

noncomputable def f60v1_w1B (k : Nat) (c59 : PV → (PV → R) → R) (c60v1 : PV → (List PV) → ((List PV) → R) → R) (c82v1 : (List Int) → (List PV) → (Int → PV → (List PV) → R) → R) (ret0 : (List PV) → R) (p6 : PV) (nx : Int × (List PV) → R) : Int × (List PV) → R := (fun s => f60v1_w1b0N k c59 c60v1 c82v1 ret0 (fun n11 l12 => nx (n11, l12)) p6 s.1 s.2)
noncomputable def f60v1_w1N (k : Nat) (c59 : PV → (PV → R) → R) (c60v1 : PV → (List PV) → ((List PV) → R) → R) (c82v1 : (List Int) → (List PV) → (Int → PV → (List PV) → R) → R) (ret0 : (List PV) → R) (p6 : PV) (n11 : Int) (l12 : List PV) : R := loopR (f60v1_w1B k c59 c60v1 c82v1 ret0 p6) k (n11, l12)
theorem f60v1_w1_eq (k : Nat) (c59 : PV → (PV → R) → R) (c60v1 : PV → (List PV) → ((List PV) → R) → R) (c82v1 : (List Int) → (List PV) → (Int → PV → (List PV) → R) → R) (retF : (List PV) → R) (p6 : PV) (n11 : Int) (l12 : List PV) : f60v1_w1A k c59 c60v1 c82v1 retF p6 n11 l12 = f60v1_w1N k c59 c60v1 c82v1 (fun y0 => retF y0) p6 n11 l12 :=
  Eq.mp (by kernel_rfl) (loop_sim (E := (f60v1_E k c59 c60v1 c82v1)) (c := f60v1_cw1) (K := (kont (f60v1_E k c59 c60v1 c82v1) f60v1_code [1, 1, 1, 1, 0, 1, 0] (endK (f60v1_E k c59 c60v1 c82v1) Try.f60 [2000000, 2000001] f60v1_un retF))) (S := Int × (List PV)) (fun s => f60v1_hw1_0 p6 s.1 s.2) (f60v1_w1B k c59 c60v1 c82v1 (fun y0 => retF y0) p6) (fun NX s => by
    exact Eq.mp (by kernel_rfl) (f60v1_w1b0_eq k c59 c60v1 c82v1 retF NX p6 s.1 s.2)) k (n11, l12))

noncomputable def f60v1_cw2 : Code := subC f60v1_code [1, 1, 1, 1, 0, 1, 0, 0]
noncomputable def f60v1_hw2_0 (p26 : PV) (n31 : Int) (l32 : List PV) : St := ⟨[.ptr 2000000 [], .dead, .dead, .dead, .dead, .str [], .dead, .dead, .dead, .dead, .dead, .dead, .dead, .dead, .dead, .dead, .dead, .dead, .dead, .dead, .dead, .dead, .dead, .dead, .dead, .dead, .dead, .dead, .dead, .dead, .dead, .dead, .dead, .dead, .dead, .dead, .dead, .dead, .dead, .dead, .dead, .dead, .dead, .dead, .dead, .dead, .dead, .dead, .dead, .val 28 p26, .int .i64 (List.length (PV.els p26) : Int), .int .i64 n31, .dead, .dead, .dead, .dead, .dead, .dead, .dead, .dead, .dead, .dead, .dead, .dead, .dead, .dead, .dead], [(2000000, .box 76 (.agg 76 [.ptr 2000000 [], .own 43 2000001])), (2000001, .row 5 l32)]⟩
noncomputable def f60v1_w2A (k : Nat) (c59 : PV → (PV → R) → R) (c60v1 : PV → (List PV) → ((List PV) → R) → R) (c82v1 : (List Int) → (List PV) → (Int → PV → (List PV) → R) → R) (retF : (List PV) → R) (p26 : PV) (n31 : Int) (l32 : List PV) : R := loopM (f60v1_E k c59 c60v1 c82v1) f60v1_cw2 (kont (f60v1_E k c59 c60v1 c82v1) f60v1_code [1, 1, 1, 1, 0, 1, 0] (endK (f60v1_E k c59 c60v1 c82v1) Try.f60 [2000000, 2000001] f60v1_un retF)) k (f60v1_hw2_0 p26 n31 l32)
noncomputable def f60v1_w2b0 (c59 : PV → (PV → R) → R) (c60v1 : PV → (List PV) → ((List PV) → R) → R) (c82v1 : (List Int) → (List PV) → (Int → PV → (List PV) → R) → R) (ret0 : (List PV) → R) (next_w2_0 : Int → (List PV) → R) (p26 : PV) (n31 : Int) (l32 : List PV) : R :=
  bif (decide (n31 < (List.length (PV.els p26) : Int))) then
    bif (true && decide ((0 : Int) ≤ n31) && decide (n31 < (List.length (PV.els p26) : Int))) then
      bif (decide ((0 : Int) < n31)) then
        c82v1 [44] l32 fun n33 p34 l35 =>
        c60v1 (List.getD (PV.els p26) (n31).toNat PV.nil) l35 fun l36 =>
        next_w2_0 (IntKind.wrap .i64 (n31 + (1 : Int))) l36
      else c60v1 (List.getD (PV.els p26) (n31).toNat PV.nil) l32 fun l37 =>
      next_w2_0 (IntKind.wrap .i64 (n31 + (1 : Int))) l37
    else none
  else c82v1 [] l32 fun n38 p39 l40 =>
  ret0 l40

theorem f60v1_w2b0_mem (k : Nat) (c59 : PV → (PV → R) → R) (c60v1 : PV → (List PV) → ((List PV) → R) → R) (c82v1 : (List Int) → (List PV) → (Int → PV → (List PV) → R) → R) (retF : (List PV) → R) (NX_w2 : St → R) (p26 : PV) (n31 : Int) (l32 : List PV) : exec (f60v1_E k c59 c60v1 c82v1) f60v1_cw2 (purgeK (f60v1_E k c59 c60v1 c82v1) f60v1_cw2 (loopK NX_w2 (kont (f60v1_E k c59 c60v1 c82v1) f60v1_code [1, 1, 1, 1, 0, 1, 0] (endK (f60v1_E k c59 c60v1 c82v1) Try.f60 [2000000, 2000001] f60v1_un retF)))) (f60v1_hw2_0 p26 n31 l32) = f60v1_w2b0 c59 c60v1 c82v1 (fun y0 => retF y0) (fun n31 l32 => NX_w2 (f60v1_hw2_0 p26 n31 l32)) p26 n31 l32 := by kernel_rfl

noncomputable def f60v1_w2b0N (k : Nat) (c59 : PV → (PV → R) → R) (c60v1 : PV → (List PV) → ((List PV) → R) → R) (c82v1 : (List Int) → (List PV) → (Int → PV → (List PV) → R) → R) (ret0 : (List PV) → R) (next_w2_0 : Int → (List PV) → R) (p26 : PV) (n31 : Int) (l32 : List PV) : R :=
  f60v1_w2b0 c59 c60v1 c82v1 ret0 next_w2_0 p26 n31 l32
theorem f60v1_w2b0_eq (k : Nat) (c59 : PV → (PV → R) → R) (c60v1 : PV → (List PV) → ((List PV) → R) → R) (c82v1 : (List Int) → (List PV) → (Int → PV → (List PV) → R) → R) (retF : (List PV) → R) (NX_w2 : St → R) (p26 : PV) (n31 : Int) (l32 : List PV) : exec (f60v1_E k c59 c60v1 c82v1) f60v1_cw2 (purgeK (f60v1_E k c59 c60v1 c82v1) f60v1_cw2 (loopK NX_w2 (kont (f60v1_E k c59 c60v1 c82v1) f60v1_code [1, 1, 1, 1, 0, 1, 0] (endK (f60v1_E k c59 c60v1 c82v1) Try.f60 [2000000, 2000001] f60v1_un retF)))) (f60v1_hw2_0 p26 n31 l32) = f60v1_w2b0N k c59 c60v1 c82v1 (fun y0 => retF y0) (fun n31 l32 => NX_w2 (f60v1_hw2_0 p26 n31 l32)) p26 n31 l32 :=
  (f60v1_w2b0_mem k c59 c60v1 c82v1 retF NX_w2 p26 n31 l32)

noncomputable def f60v1_w2B (k : Nat) (c59 : PV → (PV → R) → R) (c60v1 : PV → (List PV) → ((List PV) → R) → R) (c82v1 : (List Int) → (List PV) → (Int → PV → (List PV) → R) → R) (ret0 : (List PV) → R) (p26 : PV) (nx : Int × (List PV) → R) : Int × (List PV) → R := (fun s => f60v1_w2b0N k c59 c60v1 c82v1 ret0 (fun n31 l32 => nx (n31, l32)) p26 s.1 s.2)
noncomputable def f60v1_w2N (k : Nat) (c59 : PV → (PV → R) → R) (c60v1 : PV → (List PV) → ((List PV) → R) → R) (c82v1 : (List Int) → (List PV) → (Int → PV → (List PV) → R) → R) (ret0 : (List PV) → R) (p26 : PV) (n31 : Int) (l32 : List PV) : R := loopR (f60v1_w2B k c59 c60v1 c82v1 ret0 p26) k (n31, l32)
theorem f60v1_w2_eq (k : Nat) (c59 : PV → (PV → R) → R) (c60v1 : PV → (List PV) → ((List PV) → R) → R) (c82v1 : (List Int) → (List PV) → (Int → PV → (List PV) → R) → R) (retF : (List PV) → R) (p26 : PV) (n31 : Int) (l32 : List PV) : f60v1_w2A k c59 c60v1 c82v1 retF p26 n31 l32 = f60v1_w2N k c59 c60v1 c82v1 (fun y0 => retF y0) p26 n31 l32 :=
  Eq.mp (by kernel_rfl) (loop_sim (E := (f60v1_E k c59 c60v1 c82v1)) (c := f60v1_cw2) (K := (kont (f60v1_E k c59 c60v1 c82v1) f60v1_code [1, 1, 1, 1, 0, 1, 0] (endK (f60v1_E k c59 c60v1 c82v1) Try.f60 [2000000, 2000001] f60v1_un retF))) (S := Int × (List PV)) (fun s => f60v1_hw2_0 p26 s.1 s.2) (f60v1_w2B k c59 c60v1 c82v1 (fun y0 => retF y0) p26) (fun NX s => by
    exact Eq.mp (by kernel_rfl) (f60v1_w2b0_eq k c59 c60v1 c82v1 retF NX p26 s.1 s.2)) k (n31, l32))

noncomputable def f60v1_cw3 : Code := subC f60v1_code [1, 1, 1, 1, 0, 1, 0, 0]
noncomputable def f60v1_hw3_0 (p44 : PV) (n49 : Int) (l50 : List PV) : St := ⟨[.ptr 2000000 [], .dead, .dead, .dead, .dead, .str [44, 41], .dead, .dead, .dead, .dead, .dead, .dead, .dead, .dead, .dead, .dead, .dead, .dead, .dead, .dead, .dead, .dead, .dead, .dead, .dead, .dead, .dead, .dead, .dead, .dead, .dead, .dead, .dead, .dead, .dead, .dead, .dead, .dead, .dead, .dead, .dead, .dead, .dead, .dead, .dead, .dead, .dead, .dead, .dead, .val 28 p44, .int .i64 (List.length (PV.els p44) : Int), .int .i64 n49, .dead, .dead, .dead, .dead, .dead, .dead, .dead, .dead, .dead, .dead, .dead, .dead, .dead, .dead, .dead], [(2000000, .box 76 (.agg 76 [.ptr 2000000 [], .own 43 2000001])), (2000001, .row 5 l50)]⟩
noncomputable def f60v1_w3A (k : Nat) (c59 : PV → (PV → R) → R) (c60v1 : PV → (List PV) → ((List PV) → R) → R) (c82v1 : (List Int) → (List PV) → (Int → PV → (List PV) → R) → R) (retF : (List PV) → R) (p44 : PV) (n49 : Int) (l50 : List PV) : R := loopM (f60v1_E k c59 c60v1 c82v1) f60v1_cw3 (kont (f60v1_E k c59 c60v1 c82v1) f60v1_code [1, 1, 1, 1, 0, 1, 0] (endK (f60v1_E k c59 c60v1 c82v1) Try.f60 [2000000, 2000001] f60v1_un retF)) k (f60v1_hw3_0 p44 n49 l50)
noncomputable def f60v1_w3b0 (c59 : PV → (PV → R) → R) (c60v1 : PV → (List PV) → ((List PV) → R) → R) (c82v1 : (List Int) → (List PV) → (Int → PV → (List PV) → R) → R) (ret0 : (List PV) → R) (next_w3_0 : Int → (List PV) → R) (p44 : PV) (n49 : Int) (l50 : List PV) : R :=
  bif (decide (n49 < (List.length (PV.els p44) : Int))) then
    bif (true && decide ((0 : Int) ≤ n49) && decide (n49 < (List.length (PV.els p44) : Int))) then
      bif (decide ((0 : Int) < n49)) then
        c82v1 [44] l50 fun n51 p52 l53 =>
        c60v1 (List.getD (PV.els p44) (n49).toNat PV.nil) l53 fun l54 =>
        next_w3_0 (IntKind.wrap .i64 (n49 + (1 : Int))) l54
      else c60v1 (List.getD (PV.els p44) (n49).toNat PV.nil) l50 fun l55 =>
      next_w3_0 (IntKind.wrap .i64 (n49 + (1 : Int))) l55
    else none
  else c82v1 [44, 41] l50 fun n56 p57 l58 =>
  ret0 l58

theorem f60v1_w3b0_mem (k : Nat) (c59 : PV → (PV → R) → R) (c60v1 : PV → (List PV) → ((List PV) → R) → R) (c82v1 : (List Int) → (List PV) → (Int → PV → (List PV) → R) → R) (retF : (List PV) → R) (NX_w3 : St → R) (p44 : PV) (n49 : Int) (l50 : List PV) : exec (f60v1_E k c59 c60v1 c82v1) f60v1_cw3 (purgeK (f60v1_E k c59 c60v1 c82v1) f60v1_cw3 (loopK NX_w3 (kont (f60v1_E k c59 c60v1 c82v1) f60v1_code [1, 1, 1, 1, 0, 1, 0] (endK (f60v1_E k c59 c60v1 c82v1) Try.f60 [2000000, 2000001] f60v1_un retF)))) (f60v1_hw3_0 p44 n49 l50) = f60v1_w3b0 c59 c60v1 c82v1 (fun y0 => retF y0) (fun n49 l50 => NX_w3 (f60v1_hw3_0 p44 n49 l50)) p44 n49 l50 := by kernel_rfl

noncomputable def f60v1_w3b0N (k : Nat) (c59 : PV → (PV → R) → R) (c60v1 : PV → (List PV) → ((List PV) → R) → R) (c82v1 : (List Int) → (List PV) → (Int → PV → (List PV) → R) → R) (ret0 : (List PV) → R) (next_w3_0 : Int → (List PV) → R) (p44 : PV) (n49 : Int) (l50 : List PV) : R :=
  f60v1_w3b0 c59 c60v1 c82v1 ret0 next_w3_0 p44 n49 l50
theorem f60v1_w3b0_eq (k : Nat) (c59 : PV → (PV → R) → R) (c60v1 : PV → (List PV) → ((List PV) → R) → R) (c82v1 : (List Int) → (List PV) → (Int → PV → (List PV) → R) → R) (retF : (List PV) → R) (NX_w3 : St → R) (p44 : PV) (n49 : Int) (l50 : List PV) : exec (f60v1_E k c59 c60v1 c82v1) f60v1_cw3 (purgeK (f60v1_E k c59 c60v1 c82v1) f60v1_cw3 (loopK NX_w3 (kont (f60v1_E k c59 c60v1 c82v1) f60v1_code [1, 1, 1, 1, 0, 1, 0] (endK (f60v1_E k c59 c60v1 c82v1) Try.f60 [2000000, 2000001] f60v1_un retF)))) (f60v1_hw3_0 p44 n49 l50) = f60v1_w3b0N k c59 c60v1 c82v1 (fun y0 => retF y0) (fun n49 l50 => NX_w3 (f60v1_hw3_0 p44 n49 l50)) p44 n49 l50 :=
  (f60v1_w3b0_mem k c59 c60v1 c82v1 retF NX_w3 p44 n49 l50)

noncomputable def f60v1_w3B (k : Nat) (c59 : PV → (PV → R) → R) (c60v1 : PV → (List PV) → ((List PV) → R) → R) (c82v1 : (List Int) → (List PV) → (Int → PV → (List PV) → R) → R) (ret0 : (List PV) → R) (p44 : PV) (nx : Int × (List PV) → R) : Int × (List PV) → R := (fun s => f60v1_w3b0N k c59 c60v1 c82v1 ret0 (fun n49 l50 => nx (n49, l50)) p44 s.1 s.2)
noncomputable def f60v1_w3N (k : Nat) (c59 : PV → (PV → R) → R) (c60v1 : PV → (List PV) → ((List PV) → R) → R) (c82v1 : (List Int) → (List PV) → (Int → PV → (List PV) → R) → R) (ret0 : (List PV) → R) (p44 : PV) (n49 : Int) (l50 : List PV) : R := loopR (f60v1_w3B k c59 c60v1 c82v1 ret0 p44) k (n49, l50)
theorem f60v1_w3_eq (k : Nat) (c59 : PV → (PV → R) → R) (c60v1 : PV → (List PV) → ((List PV) → R) → R) (c82v1 : (List Int) → (List PV) → (Int → PV → (List PV) → R) → R) (retF : (List PV) → R) (p44 : PV) (n49 : Int) (l50 : List PV) : f60v1_w3A k c59 c60v1 c82v1 retF p44 n49 l50 = f60v1_w3N k c59 c60v1 c82v1 (fun y0 => retF y0) p44 n49 l50 :=
  Eq.mp (by kernel_rfl) (loop_sim (E := (f60v1_E k c59 c60v1 c82v1)) (c := f60v1_cw3) (K := (kont (f60v1_E k c59 c60v1 c82v1) f60v1_code [1, 1, 1, 1, 0, 1, 0] (endK (f60v1_E k c59 c60v1 c82v1) Try.f60 [2000000, 2000001] f60v1_un retF))) (S := Int × (List PV)) (fun s => f60v1_hw3_0 p44 s.1 s.2) (f60v1_w3B k c59 c60v1 c82v1 (fun y0 => retF y0) p44) (fun NX s => by
    exact Eq.mp (by kernel_rfl) (f60v1_w3b0_eq k c59 c60v1 c82v1 retF NX p44 s.1 s.2)) k (n49, l50))

noncomputable def f60v1_cw4 : Code := subC f60v1_code [1, 1, 1, 1, 0, 1, 0, 0]
noncomputable def f60v1_hw4_0 (p62 : PV) (n67 : Int) (l68 : List PV) : St := ⟨[.ptr 2000000 [], .dead, .dead, .dead, .dead, .str [41], .dead, .dead, .dead, .dead, .dead, .dead, .dead, .dead, .dead, .dead, .dead, .dead, .dead, .dead, .dead, .dead, .dead, .dead, .dead, .dead, .dead, .dead, .dead, .dead, .dead, .dead, .dead, .dead, .dead, .dead, .dead, .dead, .dead, .dead, .dead, .dead, .dead, .dead, .dead, .dead, .dead, .dead, .dead, .val 28 p62, .int .i64 (List.length (PV.els p62) : Int), .int .i64 n67, .dead, .dead, .dead, .dead, .dead, .dead, .dead, .dead, .dead, .dead, .dead, .dead, .dead, .dead, .dead], [(2000000, .box 76 (.agg 76 [.ptr 2000000 [], .own 43 2000001])), (2000001, .row 5 l68)]⟩
noncomputable def f60v1_w4A (k : Nat) (c59 : PV → (PV → R) → R) (c60v1 : PV → (List PV) → ((List PV) → R) → R) (c82v1 : (List Int) → (List PV) → (Int → PV → (List PV) → R) → R) (retF : (List PV) → R) (p62 : PV) (n67 : Int) (l68 : List PV) : R := loopM (f60v1_E k c59 c60v1 c82v1) f60v1_cw4 (kont (f60v1_E k c59 c60v1 c82v1) f60v1_code [1, 1, 1, 1, 0, 1, 0] (endK (f60v1_E k c59 c60v1 c82v1) Try.f60 [2000000, 2000001] f60v1_un retF)) k (f60v1_hw4_0 p62 n67 l68)
noncomputable def f60v1_w4b0 (c59 : PV → (PV → R) → R) (c60v1 : PV → (List PV) → ((List PV) → R) → R) (c82v1 : (List Int) → (List PV) → (Int → PV → (List PV) → R) → R) (ret0 : (List PV) → R) (next_w4_0 : Int → (List PV) → R) (p62 : PV) (n67 : Int) (l68 : List PV) : R :=
  bif (decide (n67 < (List.length (PV.els p62) : Int))) then
    bif (true && decide ((0 : Int) ≤ n67) && decide (n67 < (List.length (PV.els p62) : Int))) then
      bif (decide ((0 : Int) < n67)) then
        c82v1 [44] l68 fun n69 p70 l71 =>
        c60v1 (List.getD (PV.els p62) (n67).toNat PV.nil) l71 fun l72 =>
        next_w4_0 (IntKind.wrap .i64 (n67 + (1 : Int))) l72
      else c60v1 (List.getD (PV.els p62) (n67).toNat PV.nil) l68 fun l73 =>
      next_w4_0 (IntKind.wrap .i64 (n67 + (1 : Int))) l73
    else none
  else c82v1 [41] l68 fun n74 p75 l76 =>
  ret0 l76

theorem f60v1_w4b0_mem (k : Nat) (c59 : PV → (PV → R) → R) (c60v1 : PV → (List PV) → ((List PV) → R) → R) (c82v1 : (List Int) → (List PV) → (Int → PV → (List PV) → R) → R) (retF : (List PV) → R) (NX_w4 : St → R) (p62 : PV) (n67 : Int) (l68 : List PV) : exec (f60v1_E k c59 c60v1 c82v1) f60v1_cw4 (purgeK (f60v1_E k c59 c60v1 c82v1) f60v1_cw4 (loopK NX_w4 (kont (f60v1_E k c59 c60v1 c82v1) f60v1_code [1, 1, 1, 1, 0, 1, 0] (endK (f60v1_E k c59 c60v1 c82v1) Try.f60 [2000000, 2000001] f60v1_un retF)))) (f60v1_hw4_0 p62 n67 l68) = f60v1_w4b0 c59 c60v1 c82v1 (fun y0 => retF y0) (fun n67 l68 => NX_w4 (f60v1_hw4_0 p62 n67 l68)) p62 n67 l68 := by kernel_rfl

noncomputable def f60v1_w4b0N (k : Nat) (c59 : PV → (PV → R) → R) (c60v1 : PV → (List PV) → ((List PV) → R) → R) (c82v1 : (List Int) → (List PV) → (Int → PV → (List PV) → R) → R) (ret0 : (List PV) → R) (next_w4_0 : Int → (List PV) → R) (p62 : PV) (n67 : Int) (l68 : List PV) : R :=
  f60v1_w4b0 c59 c60v1 c82v1 ret0 next_w4_0 p62 n67 l68
theorem f60v1_w4b0_eq (k : Nat) (c59 : PV → (PV → R) → R) (c60v1 : PV → (List PV) → ((List PV) → R) → R) (c82v1 : (List Int) → (List PV) → (Int → PV → (List PV) → R) → R) (retF : (List PV) → R) (NX_w4 : St → R) (p62 : PV) (n67 : Int) (l68 : List PV) : exec (f60v1_E k c59 c60v1 c82v1) f60v1_cw4 (purgeK (f60v1_E k c59 c60v1 c82v1) f60v1_cw4 (loopK NX_w4 (kont (f60v1_E k c59 c60v1 c82v1) f60v1_code [1, 1, 1, 1, 0, 1, 0] (endK (f60v1_E k c59 c60v1 c82v1) Try.f60 [2000000, 2000001] f60v1_un retF)))) (f60v1_hw4_0 p62 n67 l68) = f60v1_w4b0N k c59 c60v1 c82v1 (fun y0 => retF y0) (fun n67 l68 => NX_w4 (f60v1_hw4_0 p62 n67 l68)) p62 n67 l68 :=
  (f60v1_w4b0_mem k c59 c60v1 c82v1 retF NX_w4 p62 n67 l68)

noncomputable def f60v1_w4B (k : Nat) (c59 : PV → (PV → R) → R) (c60v1 : PV → (List PV) → ((List PV) → R) → R) (c82v1 : (List Int) → (List PV) → (Int → PV → (List PV) → R) → R) (ret0 : (List PV) → R) (p62 : PV) (nx : Int × (List PV) → R) : Int × (List PV) → R := (fun s => f60v1_w4b0N k c59 c60v1 c82v1 ret0 (fun n67 l68 => nx (n67, l68)) p62 s.1 s.2)
noncomputable def f60v1_w4N (k : Nat) (c59 : PV → (PV → R) → R) (c60v1 : PV → (List PV) → ((List PV) → R) → R) (c82v1 : (List Int) → (List PV) → (Int → PV → (List PV) → R) → R) (ret0 : (List PV) → R) (p62 : PV) (n67 : Int) (l68 : List PV) : R := loopR (f60v1_w4B k c59 c60v1 c82v1 ret0 p62) k (n67, l68)
theorem f60v1_w4_eq (k : Nat) (c59 : PV → (PV → R) → R) (c60v1 : PV → (List PV) → ((List PV) → R) → R) (c82v1 : (List Int) → (List PV) → (Int → PV → (List PV) → R) → R) (retF : (List PV) → R) (p62 : PV) (n67 : Int) (l68 : List PV) : f60v1_w4A k c59 c60v1 c82v1 retF p62 n67 l68 = f60v1_w4N k c59 c60v1 c82v1 (fun y0 => retF y0) p62 n67 l68 :=
  Eq.mp (by kernel_rfl) (loop_sim (E := (f60v1_E k c59 c60v1 c82v1)) (c := f60v1_cw4) (K := (kont (f60v1_E k c59 c60v1 c82v1) f60v1_code [1, 1, 1, 1, 0, 1, 0] (endK (f60v1_E k c59 c60v1 c82v1) Try.f60 [2000000, 2000001] f60v1_un retF))) (S := Int × (List PV)) (fun s => f60v1_hw4_0 p62 s.1 s.2) (f60v1_w4B k c59 c60v1 c82v1 (fun y0 => retF y0) p62) (fun NX s => by
    exact Eq.mp (by kernel_rfl) (f60v1_w4b0_eq k c59 c60v1 c82v1 retF NX p62 s.1 s.2)) k (n67, l68))

noncomputable def f60v1_cw5 : Code := subC f60v1_code [1, 1, 1, 1, 0, 1, 0, 0]
noncomputable def f60v1_hw5_0 (p80 : PV) (n85 : Int) (l86 : List PV) : St := ⟨[.ptr 2000000 [], .dead, .dead, .dead, .dead, .str [], .dead, .dead, .dead, .dead, .dead, .dead, .dead, .dead, .dead, .dead, .dead, .dead, .dead, .dead, .dead, .dead, .dead, .dead, .dead, .dead, .dead, .dead, .dead, .dead, .dead, .dead, .dead, .dead, .dead, .dead, .dead, .dead, .dead, .dead, .dead, .dead, .dead, .dead, .dead, .dead, .dead, .dead, .dead, .val 28 p80, .int .i64 (List.length (PV.els p80) : Int), .int .i64 n85, .dead, .dead, .dead, .dead, .dead, .dead, .dead, .dead, .dead, .dead, .dead, .dead, .dead, .dead, .dead], [(2000000, .box 76 (.agg 76 [.ptr 2000000 [], .own 43 2000001])), (2000001, .row 5 l86)]⟩
noncomputable def f60v1_w5A (k : Nat) (c59 : PV → (PV → R) → R) (c60v1 : PV → (List PV) → ((List PV) → R) → R) (c82v1 : (List Int) → (List PV) → (Int → PV → (List PV) → R) → R) (retF : (List PV) → R) (p80 : PV) (n85 : Int) (l86 : List PV) : R := loopM (f60v1_E k c59 c60v1 c82v1) f60v1_cw5 (kont (f60v1_E k c59 c60v1 c82v1) f60v1_code [1, 1, 1, 1, 0, 1, 0] (endK (f60v1_E k c59 c60v1 c82v1) Try.f60 [2000000, 2000001] f60v1_un retF)) k (f60v1_hw5_0 p80 n85 l86)
noncomputable def f60v1_w5b0 (c59 : PV → (PV → R) → R) (c60v1 : PV → (List PV) → ((List PV) → R) → R) (c82v1 : (List Int) → (List PV) → (Int → PV → (List PV) → R) → R) (ret0 : (List PV) → R) (next_w5_0 : Int → (List PV) → R) (p80 : PV) (n85 : Int) (l86 : List PV) : R :=
  bif (decide (n85 < (List.length (PV.els p80) : Int))) then
    bif (true && decide ((0 : Int) ≤ n85) && decide (n85 < (List.length (PV.els p80) : Int))) then
      bif (decide ((0 : Int) < n85)) then
        c82v1 [44] l86 fun n87 p88 l89 =>
        c60v1 (List.getD (PV.els p80) (n85).toNat PV.nil) l89 fun l90 =>
        next_w5_0 (IntKind.wrap .i64 (n85 + (1 : Int))) l90
      else c60v1 (List.getD (PV.els p80) (n85).toNat PV.nil) l86 fun l91 =>
      next_w5_0 (IntKind.wrap .i64 (n85 + (1 : Int))) l91
    else none
  else c82v1 [] l86 fun n92 p93 l94 =>
  ret0 l94

theorem f60v1_w5b0_mem (k : Nat) (c59 : PV → (PV → R) → R) (c60v1 : PV → (List PV) → ((List PV) → R) → R) (c82v1 : (List Int) → (List PV) → (Int → PV → (List PV) → R) → R) (retF : (List PV) → R) (NX_w5 : St → R) (p80 : PV) (n85 : Int) (l86 : List PV) : exec (f60v1_E k c59 c60v1 c82v1) f60v1_cw5 (purgeK (f60v1_E k c59 c60v1 c82v1) f60v1_cw5 (loopK NX_w5 (kont (f60v1_E k c59 c60v1 c82v1) f60v1_code [1, 1, 1, 1, 0, 1, 0] (endK (f60v1_E k c59 c60v1 c82v1) Try.f60 [2000000, 2000001] f60v1_un retF)))) (f60v1_hw5_0 p80 n85 l86) = f60v1_w5b0 c59 c60v1 c82v1 (fun y0 => retF y0) (fun n85 l86 => NX_w5 (f60v1_hw5_0 p80 n85 l86)) p80 n85 l86 := by kernel_rfl

noncomputable def f60v1_w5b0N (k : Nat) (c59 : PV → (PV → R) → R) (c60v1 : PV → (List PV) → ((List PV) → R) → R) (c82v1 : (List Int) → (List PV) → (Int → PV → (List PV) → R) → R) (ret0 : (List PV) → R) (next_w5_0 : Int → (List PV) → R) (p80 : PV) (n85 : Int) (l86 : List PV) : R :=
  f60v1_w5b0 c59 c60v1 c82v1 ret0 next_w5_0 p80 n85 l86
theorem f60v1_w5b0_eq (k : Nat) (c59 : PV → (PV → R) → R) (c60v1 : PV → (List PV) → ((List PV) → R) → R) (c82v1 : (List Int) → (List PV) → (Int → PV → (List PV) → R) → R) (retF : (List PV) → R) (NX_w5 : St → R) (p80 : PV) (n85 : Int) (l86 : List PV) : exec (f60v1_E k c59 c60v1 c82v1) f60v1_cw5 (purgeK (f60v1_E k c59 c60v1 c82v1) f60v1_cw5 (loopK NX_w5 (kont (f60v1_E k c59 c60v1 c82v1) f60v1_code [1, 1, 1, 1, 0, 1, 0] (endK (f60v1_E k c59 c60v1 c82v1) Try.f60 [2000000, 2000001] f60v1_un retF)))) (f60v1_hw5_0 p80 n85 l86) = f60v1_w5b0N k c59 c60v1 c82v1 (fun y0 => retF y0) (fun n85 l86 => NX_w5 (f60v1_hw5_0 p80 n85 l86)) p80 n85 l86 :=
  (f60v1_w5b0_mem k c59 c60v1 c82v1 retF NX_w5 p80 n85 l86)

noncomputable def f60v1_w5B (k : Nat) (c59 : PV → (PV → R) → R) (c60v1 : PV → (List PV) → ((List PV) → R) → R) (c82v1 : (List Int) → (List PV) → (Int → PV → (List PV) → R) → R) (ret0 : (List PV) → R) (p80 : PV) (nx : Int × (List PV) → R) : Int × (List PV) → R := (fun s => f60v1_w5b0N k c59 c60v1 c82v1 ret0 (fun n85 l86 => nx (n85, l86)) p80 s.1 s.2)
noncomputable def f60v1_w5N (k : Nat) (c59 : PV → (PV → R) → R) (c60v1 : PV → (List PV) → ((List PV) → R) → R) (c82v1 : (List Int) → (List PV) → (Int → PV → (List PV) → R) → R) (ret0 : (List PV) → R) (p80 : PV) (n85 : Int) (l86 : List PV) : R := loopR (f60v1_w5B k c59 c60v1 c82v1 ret0 p80) k (n85, l86)
theorem f60v1_w5_eq (k : Nat) (c59 : PV → (PV → R) → R) (c60v1 : PV → (List PV) → ((List PV) → R) → R) (c82v1 : (List Int) → (List PV) → (Int → PV → (List PV) → R) → R) (retF : (List PV) → R) (p80 : PV) (n85 : Int) (l86 : List PV) : f60v1_w5A k c59 c60v1 c82v1 retF p80 n85 l86 = f60v1_w5N k c59 c60v1 c82v1 (fun y0 => retF y0) p80 n85 l86 :=
  Eq.mp (by kernel_rfl) (loop_sim (E := (f60v1_E k c59 c60v1 c82v1)) (c := f60v1_cw5) (K := (kont (f60v1_E k c59 c60v1 c82v1) f60v1_code [1, 1, 1, 1, 0, 1, 0] (endK (f60v1_E k c59 c60v1 c82v1) Try.f60 [2000000, 2000001] f60v1_un retF))) (S := Int × (List PV)) (fun s => f60v1_hw5_0 p80 s.1 s.2) (f60v1_w5B k c59 c60v1 c82v1 (fun y0 => retF y0) p80) (fun NX s => by
    exact Eq.mp (by kernel_rfl) (f60v1_w5b0_eq k c59 c60v1 c82v1 retF NX p80 s.1 s.2)) k (n85, l86))

noncomputable def f60v1_cw6 : Code := subC f60v1_code [1, 1, 1, 1, 0, 1, 0, 0]
noncomputable def f60v1_hw6_0 (p98 : PV) (n103 : Int) (l104 : List PV) : St := ⟨[.ptr 2000000 [], .dead, .dead, .dead, .dead, .str [], .dead, .dead, .dead, .dead, .dead, .dead, .dead, .dead, .dead, .dead, .dead, .dead, .dead, .dead, .dead, .dead, .dead, .dead, .dead, .dead, .dead, .dead, .dead, .dead, .dead, .dead, .dead, .dead, .dead, .dead, .dead, .dead, .dead, .dead, .dead, .dead, .dead, .dead, .dead, .dead, .dead, .dead, .dead, .val 28 p98, .int .i64 (List.length (PV.els p98) : Int), .int .i64 n103, .dead, .dead, .dead, .dead, .dead, .dead, .dead, .dead, .dead, .dead, .dead, .dead, .dead, .dead, .dead], [(2000000, .box 76 (.agg 76 [.ptr 2000000 [], .own 43 2000001])), (2000001, .row 5 l104)]⟩
noncomputable def f60v1_w6A (k : Nat) (c59 : PV → (PV → R) → R) (c60v1 : PV → (List PV) → ((List PV) → R) → R) (c82v1 : (List Int) → (List PV) → (Int → PV → (List PV) → R) → R) (retF : (List PV) → R) (p98 : PV) (n103 : Int) (l104 : List PV) : R := loopM (f60v1_E k c59 c60v1 c82v1) f60v1_cw6 (kont (f60v1_E k c59 c60v1 c82v1) f60v1_code [1, 1, 1, 1, 0, 1, 0] (endK (f60v1_E k c59 c60v1 c82v1) Try.f60 [2000000, 2000001] f60v1_un retF)) k (f60v1_hw6_0 p98 n103 l104)
noncomputable def f60v1_w6b0 (c59 : PV → (PV → R) → R) (c60v1 : PV → (List PV) → ((List PV) → R) → R) (c82v1 : (List Int) → (List PV) → (Int → PV → (List PV) → R) → R) (ret0 : (List PV) → R) (next_w6_0 : Int → (List PV) → R) (p98 : PV) (n103 : Int) (l104 : List PV) : R :=
  bif (decide (n103 < (List.length (PV.els p98) : Int))) then
    bif (true && decide ((0 : Int) ≤ n103) && decide (n103 < (List.length (PV.els p98) : Int))) then
      bif (decide ((0 : Int) < n103)) then
        c82v1 [44] l104 fun n105 p106 l107 =>
        c60v1 (List.getD (PV.els p98) (n103).toNat PV.nil) l107 fun l108 =>
        next_w6_0 (IntKind.wrap .i64 (n103 + (1 : Int))) l108
      else c60v1 (List.getD (PV.els p98) (n103).toNat PV.nil) l104 fun l109 =>
      next_w6_0 (IntKind.wrap .i64 (n103 + (1 : Int))) l109
    else none
  else c82v1 [] l104 fun n110 p111 l112 =>
  ret0 l112

theorem f60v1_w6b0_mem (k : Nat) (c59 : PV → (PV → R) → R) (c60v1 : PV → (List PV) → ((List PV) → R) → R) (c82v1 : (List Int) → (List PV) → (Int → PV → (List PV) → R) → R) (retF : (List PV) → R) (NX_w6 : St → R) (p98 : PV) (n103 : Int) (l104 : List PV) : exec (f60v1_E k c59 c60v1 c82v1) f60v1_cw6 (purgeK (f60v1_E k c59 c60v1 c82v1) f60v1_cw6 (loopK NX_w6 (kont (f60v1_E k c59 c60v1 c82v1) f60v1_code [1, 1, 1, 1, 0, 1, 0] (endK (f60v1_E k c59 c60v1 c82v1) Try.f60 [2000000, 2000001] f60v1_un retF)))) (f60v1_hw6_0 p98 n103 l104) = f60v1_w6b0 c59 c60v1 c82v1 (fun y0 => retF y0) (fun n103 l104 => NX_w6 (f60v1_hw6_0 p98 n103 l104)) p98 n103 l104 := by kernel_rfl

noncomputable def f60v1_w6b0N (k : Nat) (c59 : PV → (PV → R) → R) (c60v1 : PV → (List PV) → ((List PV) → R) → R) (c82v1 : (List Int) → (List PV) → (Int → PV → (List PV) → R) → R) (ret0 : (List PV) → R) (next_w6_0 : Int → (List PV) → R) (p98 : PV) (n103 : Int) (l104 : List PV) : R :=
  f60v1_w6b0 c59 c60v1 c82v1 ret0 next_w6_0 p98 n103 l104
theorem f60v1_w6b0_eq (k : Nat) (c59 : PV → (PV → R) → R) (c60v1 : PV → (List PV) → ((List PV) → R) → R) (c82v1 : (List Int) → (List PV) → (Int → PV → (List PV) → R) → R) (retF : (List PV) → R) (NX_w6 : St → R) (p98 : PV) (n103 : Int) (l104 : List PV) : exec (f60v1_E k c59 c60v1 c82v1) f60v1_cw6 (purgeK (f60v1_E k c59 c60v1 c82v1) f60v1_cw6 (loopK NX_w6 (kont (f60v1_E k c59 c60v1 c82v1) f60v1_code [1, 1, 1, 1, 0, 1, 0] (endK (f60v1_E k c59 c60v1 c82v1) Try.f60 [2000000, 2000001] f60v1_un retF)))) (f60v1_hw6_0 p98 n103 l104) = f60v1_w6b0N k c59 c60v1 c82v1 (fun y0 => retF y0) (fun n103 l104 => NX_w6 (f60v1_hw6_0 p98 n103 l104)) p98 n103 l104 :=
  (f60v1_w6b0_mem k c59 c60v1 c82v1 retF NX_w6 p98 n103 l104)

noncomputable def f60v1_w6B (k : Nat) (c59 : PV → (PV → R) → R) (c60v1 : PV → (List PV) → ((List PV) → R) → R) (c82v1 : (List Int) → (List PV) → (Int → PV → (List PV) → R) → R) (ret0 : (List PV) → R) (p98 : PV) (nx : Int × (List PV) → R) : Int × (List PV) → R := (fun s => f60v1_w6b0N k c59 c60v1 c82v1 ret0 (fun n103 l104 => nx (n103, l104)) p98 s.1 s.2)
noncomputable def f60v1_w6N (k : Nat) (c59 : PV → (PV → R) → R) (c60v1 : PV → (List PV) → ((List PV) → R) → R) (c82v1 : (List Int) → (List PV) → (Int → PV → (List PV) → R) → R) (ret0 : (List PV) → R) (p98 : PV) (n103 : Int) (l104 : List PV) : R := loopR (f60v1_w6B k c59 c60v1 c82v1 ret0 p98) k (n103, l104)
theorem f60v1_w6_eq (k : Nat) (c59 : PV → (PV → R) → R) (c60v1 : PV → (List PV) → ((List PV) → R) → R) (c82v1 : (List Int) → (List PV) → (Int → PV → (List PV) → R) → R) (retF : (List PV) → R) (p98 : PV) (n103 : Int) (l104 : List PV) : f60v1_w6A k c59 c60v1 c82v1 retF p98 n103 l104 = f60v1_w6N k c59 c60v1 c82v1 (fun y0 => retF y0) p98 n103 l104 :=
  Eq.mp (by kernel_rfl) (loop_sim (E := (f60v1_E k c59 c60v1 c82v1)) (c := f60v1_cw6) (K := (kont (f60v1_E k c59 c60v1 c82v1) f60v1_code [1, 1, 1, 1, 0, 1, 0] (endK (f60v1_E k c59 c60v1 c82v1) Try.f60 [2000000, 2000001] f60v1_un retF))) (S := Int × (List PV)) (fun s => f60v1_hw6_0 p98 s.1 s.2) (f60v1_w6B k c59 c60v1 c82v1 (fun y0 => retF y0) p98) (fun NX s => by
    exact Eq.mp (by kernel_rfl) (f60v1_w6b0_eq k c59 c60v1 c82v1 retF NX p98 s.1 s.2)) k (n103, l104))

noncomputable def f60v1_cw7 : Code := subC f60v1_code [1, 1, 1, 1, 0, 1, 0, 0]
noncomputable def f60v1_hw7_0 (p116 : PV) (n121 : Int) (l122 : List PV) : St := ⟨[.ptr 2000000 [], .dead, .dead, .dead, .dead, .str [93], .dead, .dead, .dead, .dead, .dead, .dead, .dead, .dead, .dead, .dead, .dead, .dead, .dead, .dead, .dead, .dead, .dead, .dead, .dead, .dead, .dead, .dead, .dead, .dead, .dead, .dead, .dead, .dead, .dead, .dead, .dead, .dead, .dead, .dead, .dead, .dead, .dead, .dead, .dead, .dead, .dead, .dead, .dead, .val 28 p116, .int .i64 (List.length (PV.els p116) : Int), .int .i64 n121, .dead, .dead, .dead, .dead, .dead, .dead, .dead, .dead, .dead, .dead, .dead, .dead, .dead, .dead, .dead], [(2000000, .box 76 (.agg 76 [.ptr 2000000 [], .own 43 2000001])), (2000001, .row 5 l122)]⟩
noncomputable def f60v1_w7A (k : Nat) (c59 : PV → (PV → R) → R) (c60v1 : PV → (List PV) → ((List PV) → R) → R) (c82v1 : (List Int) → (List PV) → (Int → PV → (List PV) → R) → R) (retF : (List PV) → R) (p116 : PV) (n121 : Int) (l122 : List PV) : R := loopM (f60v1_E k c59 c60v1 c82v1) f60v1_cw7 (kont (f60v1_E k c59 c60v1 c82v1) f60v1_code [1, 1, 1, 1, 0, 1, 0] (endK (f60v1_E k c59 c60v1 c82v1) Try.f60 [2000000, 2000001] f60v1_un retF)) k (f60v1_hw7_0 p116 n121 l122)
noncomputable def f60v1_w7b0 (c59 : PV → (PV → R) → R) (c60v1 : PV → (List PV) → ((List PV) → R) → R) (c82v1 : (List Int) → (List PV) → (Int → PV → (List PV) → R) → R) (ret0 : (List PV) → R) (next_w7_0 : Int → (List PV) → R) (p116 : PV) (n121 : Int) (l122 : List PV) : R :=
  bif (decide (n121 < (List.length (PV.els p116) : Int))) then
    bif (true && decide ((0 : Int) ≤ n121) && decide (n121 < (List.length (PV.els p116) : Int))) then
      bif (decide ((0 : Int) < n121)) then
        c82v1 [44] l122 fun n123 p124 l125 =>
        c60v1 (List.getD (PV.els p116) (n121).toNat PV.nil) l125 fun l126 =>
        next_w7_0 (IntKind.wrap .i64 (n121 + (1 : Int))) l126
      else c60v1 (List.getD (PV.els p116) (n121).toNat PV.nil) l122 fun l127 =>
      next_w7_0 (IntKind.wrap .i64 (n121 + (1 : Int))) l127
    else none
  else c82v1 [93] l122 fun n128 p129 l130 =>
  ret0 l130

theorem f60v1_w7b0_mem (k : Nat) (c59 : PV → (PV → R) → R) (c60v1 : PV → (List PV) → ((List PV) → R) → R) (c82v1 : (List Int) → (List PV) → (Int → PV → (List PV) → R) → R) (retF : (List PV) → R) (NX_w7 : St → R) (p116 : PV) (n121 : Int) (l122 : List PV) : exec (f60v1_E k c59 c60v1 c82v1) f60v1_cw7 (purgeK (f60v1_E k c59 c60v1 c82v1) f60v1_cw7 (loopK NX_w7 (kont (f60v1_E k c59 c60v1 c82v1) f60v1_code [1, 1, 1, 1, 0, 1, 0] (endK (f60v1_E k c59 c60v1 c82v1) Try.f60 [2000000, 2000001] f60v1_un retF)))) (f60v1_hw7_0 p116 n121 l122) = f60v1_w7b0 c59 c60v1 c82v1 (fun y0 => retF y0) (fun n121 l122 => NX_w7 (f60v1_hw7_0 p116 n121 l122)) p116 n121 l122 := by kernel_rfl

noncomputable def f60v1_w7b0N (k : Nat) (c59 : PV → (PV → R) → R) (c60v1 : PV → (List PV) → ((List PV) → R) → R) (c82v1 : (List Int) → (List PV) → (Int → PV → (List PV) → R) → R) (ret0 : (List PV) → R) (next_w7_0 : Int → (List PV) → R) (p116 : PV) (n121 : Int) (l122 : List PV) : R :=
  f60v1_w7b0 c59 c60v1 c82v1 ret0 next_w7_0 p116 n121 l122
theorem f60v1_w7b0_eq (k : Nat) (c59 : PV → (PV → R) → R) (c60v1 : PV → (List PV) → ((List PV) → R) → R) (c82v1 : (List Int) → (List PV) → (Int → PV → (List PV) → R) → R) (retF : (List PV) → R) (NX_w7 : St → R) (p116 : PV) (n121 : Int) (l122 : List PV) : exec (f60v1_E k c59 c60v1 c82v1) f60v1_cw7 (purgeK (f60v1_E k c59 c60v1 c82v1) f60v1_cw7 (loopK NX_w7 (kont (f60v1_E k c59 c60v1 c82v1) f60v1_code [1, 1, 1, 1, 0, 1, 0] (endK (f60v1_E k c59 c60v1 c82v1) Try.f60 [2000000, 2000001] f60v1_un retF)))) (f60v1_hw7_0 p116 n121 l122) = f60v1_w7b0N k c59 c60v1 c82v1 (fun y0 => retF y0) (fun n121 l122 => NX_w7 (f60v1_hw7_0 p116 n121 l122)) p116 n121 l122 :=
  (f60v1_w7b0_mem k c59 c60v1 c82v1 retF NX_w7 p116 n121 l122)

noncomputable def f60v1_w7B (k : Nat) (c59 : PV → (PV → R) → R) (c60v1 : PV → (List PV) → ((List PV) → R) → R) (c82v1 : (List Int) → (List PV) → (Int → PV → (List PV) → R) → R) (ret0 : (List PV) → R) (p116 : PV) (nx : Int × (List PV) → R) : Int × (List PV) → R := (fun s => f60v1_w7b0N k c59 c60v1 c82v1 ret0 (fun n121 l122 => nx (n121, l122)) p116 s.1 s.2)
noncomputable def f60v1_w7N (k : Nat) (c59 : PV → (PV → R) → R) (c60v1 : PV → (List PV) → ((List PV) → R) → R) (c82v1 : (List Int) → (List PV) → (Int → PV → (List PV) → R) → R) (ret0 : (List PV) → R) (p116 : PV) (n121 : Int) (l122 : List PV) : R := loopR (f60v1_w7B k c59 c60v1 c82v1 ret0 p116) k (n121, l122)
theorem f60v1_w7_eq (k : Nat) (c59 : PV → (PV → R) → R) (c60v1 : PV → (List PV) → ((List PV) → R) → R) (c82v1 : (List Int) → (List PV) → (Int → PV → (List PV) → R) → R) (retF : (List PV) → R) (p116 : PV) (n121 : Int) (l122 : List PV) : f60v1_w7A k c59 c60v1 c82v1 retF p116 n121 l122 = f60v1_w7N k c59 c60v1 c82v1 (fun y0 => retF y0) p116 n121 l122 :=
  Eq.mp (by kernel_rfl) (loop_sim (E := (f60v1_E k c59 c60v1 c82v1)) (c := f60v1_cw7) (K := (kont (f60v1_E k c59 c60v1 c82v1) f60v1_code [1, 1, 1, 1, 0, 1, 0] (endK (f60v1_E k c59 c60v1 c82v1) Try.f60 [2000000, 2000001] f60v1_un retF))) (S := Int × (List PV)) (fun s => f60v1_hw7_0 p116 s.1 s.2) (f60v1_w7B k c59 c60v1 c82v1 (fun y0 => retF y0) p116) (fun NX s => by
    exact Eq.mp (by kernel_rfl) (f60v1_w7b0_eq k c59 c60v1 c82v1 retF NX p116 s.1 s.2)) k (n121, l122))

noncomputable def f60v1_cw8 : Code := subC f60v1_code [1, 1, 1, 1, 0, 1, 0, 0]
noncomputable def f60v1_hw8_0 (p134 : PV) (n139 : Int) (l140 : List PV) : St := ⟨[.ptr 2000000 [], .dead, .dead, .dead, .dead, .str [62], .dead, .dead, .dead, .dead, .dead, .dead, .dead, .dead, .dead, .dead, .dead, .dead, .dead, .dead, .dead, .dead, .dead, .dead, .dead, .dead, .dead, .dead, .dead, .dead, .dead, .dead, .dead, .dead, .dead, .dead, .dead, .dead, .dead, .dead, .dead, .dead, .dead, .dead, .dead, .dead, .dead, .dead, .dead, .val 28 p134, .int .i64 (List.length (PV.els p134) : Int), .int .i64 n139, .dead, .dead, .dead, .dead, .dead, .dead, .dead, .dead, .dead, .dead, .dead, .dead, .dead, .dead, .dead], [(2000000, .box 76 (.agg 76 [.ptr 2000000 [], .own 43 2000001])), (2000001, .row 5 l140)]⟩
noncomputable def f60v1_w8A (k : Nat) (c59 : PV → (PV → R) → R) (c60v1 : PV → (List PV) → ((List PV) → R) → R) (c82v1 : (List Int) → (List PV) → (Int → PV → (List PV) → R) → R) (retF : (List PV) → R) (p134 : PV) (n139 : Int) (l140 : List PV) : R := loopM (f60v1_E k c59 c60v1 c82v1) f60v1_cw8 (kont (f60v1_E k c59 c60v1 c82v1) f60v1_code [1, 1, 1, 1, 0, 1, 0] (endK (f60v1_E k c59 c60v1 c82v1) Try.f60 [2000000, 2000001] f60v1_un retF)) k (f60v1_hw8_0 p134 n139 l140)
noncomputable def f60v1_w8b0 (c59 : PV → (PV → R) → R) (c60v1 : PV → (List PV) → ((List PV) → R) → R) (c82v1 : (List Int) → (List PV) → (Int → PV → (List PV) → R) → R) (ret0 : (List PV) → R) (next_w8_0 : Int → (List PV) → R) (p134 : PV) (n139 : Int) (l140 : List PV) : R :=
  bif (decide (n139 < (List.length (PV.els p134) : Int))) then
    bif (true && decide ((0 : Int) ≤ n139) && decide (n139 < (List.length (PV.els p134) : Int))) then
      bif (decide ((0 : Int) < n139)) then
        c82v1 [44] l140 fun n141 p142 l143 =>
        c60v1 (List.getD (PV.els p134) (n139).toNat PV.nil) l143 fun l144 =>
        next_w8_0 (IntKind.wrap .i64 (n139 + (1 : Int))) l144
      else c60v1 (List.getD (PV.els p134) (n139).toNat PV.nil) l140 fun l145 =>
      next_w8_0 (IntKind.wrap .i64 (n139 + (1 : Int))) l145
    else none
  else c82v1 [62] l140 fun n146 p147 l148 =>
  ret0 l148

theorem f60v1_w8b0_mem (k : Nat) (c59 : PV → (PV → R) → R) (c60v1 : PV → (List PV) → ((List PV) → R) → R) (c82v1 : (List Int) → (List PV) → (Int → PV → (List PV) → R) → R) (retF : (List PV) → R) (NX_w8 : St → R) (p134 : PV) (n139 : Int) (l140 : List PV) : exec (f60v1_E k c59 c60v1 c82v1) f60v1_cw8 (purgeK (f60v1_E k c59 c60v1 c82v1) f60v1_cw8 (loopK NX_w8 (kont (f60v1_E k c59 c60v1 c82v1) f60v1_code [1, 1, 1, 1, 0, 1, 0] (endK (f60v1_E k c59 c60v1 c82v1) Try.f60 [2000000, 2000001] f60v1_un retF)))) (f60v1_hw8_0 p134 n139 l140) = f60v1_w8b0 c59 c60v1 c82v1 (fun y0 => retF y0) (fun n139 l140 => NX_w8 (f60v1_hw8_0 p134 n139 l140)) p134 n139 l140 := by kernel_rfl

noncomputable def f60v1_w8b0N (k : Nat) (c59 : PV → (PV → R) → R) (c60v1 : PV → (List PV) → ((List PV) → R) → R) (c82v1 : (List Int) → (List PV) → (Int → PV → (List PV) → R) → R) (ret0 : (List PV) → R) (next_w8_0 : Int → (List PV) → R) (p134 : PV) (n139 : Int) (l140 : List PV) : R :=
  f60v1_w8b0 c59 c60v1 c82v1 ret0 next_w8_0 p134 n139 l140
theorem f60v1_w8b0_eq (k : Nat) (c59 : PV → (PV → R) → R) (c60v1 : PV → (List PV) → ((List PV) → R) → R) (c82v1 : (List Int) → (List PV) → (Int → PV → (List PV) → R) → R) (retF : (List PV) → R) (NX_w8 : St → R) (p134 : PV) (n139 : Int) (l140 : List PV) : exec (f60v1_E k c59 c60v1 c82v1) f60v1_cw8 (purgeK (f60v1_E k c59 c60v1 c82v1) f60v1_cw8 (loopK NX_w8 (kont (f60v1_E k c59 c60v1 c82v1) f60v1_code [1, 1, 1, 1, 0, 1, 0] (endK (f60v1_E k c59 c60v1 c82v1) Try.f60 [2000000, 2000001] f60v1_un retF)))) (f60v1_hw8_0 p134 n139 l140) = f60v1_w8b0N k c59 c60v1 c82v1 (fun y0 => retF y0) (fun n139 l140 => NX_w8 (f60v1_hw8_0 p134 n139 l140)) p134 n139 l140 :=
  (f60v1_w8b0_mem k c59 c60v1 c82v1 retF NX_w8 p134 n139 l140)

noncomputable def f60v1_w8B (k : Nat) (c59 : PV → (PV → R) → R) (c60v1 : PV → (List PV) → ((List PV) → R) → R) (c82v1 : (List Int) → (List PV) → (Int → PV → (List PV) → R) → R) (ret0 : (List PV) → R) (p134 : PV) (nx : Int × (List PV) → R) : Int × (List PV) → R := (fun s => f60v1_w8b0N k c59 c60v1 c82v1 ret0 (fun n139 l140 => nx (n139, l140)) p134 s.1 s.2)
noncomputable def f60v1_w8N (k : Nat) (c59 : PV → (PV → R) → R) (c60v1 : PV → (List PV) → ((List PV) → R) → R) (c82v1 : (List Int) → (List PV) → (Int → PV → (List PV) → R) → R) (ret0 : (List PV) → R) (p134 : PV) (n139 : Int) (l140 : List PV) : R := loopR (f60v1_w8B k c59 c60v1 c82v1 ret0 p134) k (n139, l140)
theorem f60v1_w8_eq (k : Nat) (c59 : PV → (PV → R) → R) (c60v1 : PV → (List PV) → ((List PV) → R) → R) (c82v1 : (List Int) → (List PV) → (Int → PV → (List PV) → R) → R) (retF : (List PV) → R) (p134 : PV) (n139 : Int) (l140 : List PV) : f60v1_w8A k c59 c60v1 c82v1 retF p134 n139 l140 = f60v1_w8N k c59 c60v1 c82v1 (fun y0 => retF y0) p134 n139 l140 :=
  Eq.mp (by kernel_rfl) (loop_sim (E := (f60v1_E k c59 c60v1 c82v1)) (c := f60v1_cw8) (K := (kont (f60v1_E k c59 c60v1 c82v1) f60v1_code [1, 1, 1, 1, 0, 1, 0] (endK (f60v1_E k c59 c60v1 c82v1) Try.f60 [2000000, 2000001] f60v1_un retF))) (S := Int × (List PV)) (fun s => f60v1_hw8_0 p134 s.1 s.2) (f60v1_w8B k c59 c60v1 c82v1 (fun y0 => retF y0) p134) (fun NX s => by
    exact Eq.mp (by kernel_rfl) (f60v1_w8b0_eq k c59 c60v1 c82v1 retF NX p134 s.1 s.2)) k (n139, l140))

noncomputable def f60v1_cw9 : Code := subC f60v1_code [1, 1, 1, 1, 0, 1, 0, 0]
noncomputable def f60v1_hw9_0 (p152 : PV) (n157 : Int) (l158 : List PV) : St := ⟨[.ptr 2000000 [], .dead, .dead, .dead, .dead, .str [], .dead, .dead, .dead, .dead, .dead, .dead, .dead, .dead, .dead, .dead, .dead, .dead, .dead, .dead, .dead, .dead, .dead, .dead, .dead, .dead, .dead, .dead, .dead, .dead, .dead, .dead, .dead, .dead, .dead, .dead, .dead, .dead, .dead, .dead, .dead, .dead, .dead, .dead, .dead, .dead, .dead, .dead, .dead, .val 28 p152, .int .i64 (List.length (PV.els p152) : Int), .int .i64 n157, .dead, .dead, .dead, .dead, .dead, .dead, .dead, .dead, .dead, .dead, .dead, .dead, .dead, .dead, .dead], [(2000000, .box 76 (.agg 76 [.ptr 2000000 [], .own 43 2000001])), (2000001, .row 5 l158)]⟩
noncomputable def f60v1_w9A (k : Nat) (c59 : PV → (PV → R) → R) (c60v1 : PV → (List PV) → ((List PV) → R) → R) (c82v1 : (List Int) → (List PV) → (Int → PV → (List PV) → R) → R) (retF : (List PV) → R) (p152 : PV) (n157 : Int) (l158 : List PV) : R := loopM (f60v1_E k c59 c60v1 c82v1) f60v1_cw9 (kont (f60v1_E k c59 c60v1 c82v1) f60v1_code [1, 1, 1, 1, 0, 1, 0] (endK (f60v1_E k c59 c60v1 c82v1) Try.f60 [2000000, 2000001] f60v1_un retF)) k (f60v1_hw9_0 p152 n157 l158)
noncomputable def f60v1_w9b0 (c59 : PV → (PV → R) → R) (c60v1 : PV → (List PV) → ((List PV) → R) → R) (c82v1 : (List Int) → (List PV) → (Int → PV → (List PV) → R) → R) (ret0 : (List PV) → R) (next_w9_0 : Int → (List PV) → R) (p152 : PV) (n157 : Int) (l158 : List PV) : R :=
  bif (decide (n157 < (List.length (PV.els p152) : Int))) then
    bif (true && decide ((0 : Int) ≤ n157) && decide (n157 < (List.length (PV.els p152) : Int))) then
      bif (decide ((0 : Int) < n157)) then
        c82v1 [44] l158 fun n159 p160 l161 =>
        c60v1 (List.getD (PV.els p152) (n157).toNat PV.nil) l161 fun l162 =>
        next_w9_0 (IntKind.wrap .i64 (n157 + (1 : Int))) l162
      else c60v1 (List.getD (PV.els p152) (n157).toNat PV.nil) l158 fun l163 =>
      next_w9_0 (IntKind.wrap .i64 (n157 + (1 : Int))) l163
    else none
  else c82v1 [] l158 fun n164 p165 l166 =>
  ret0 l166

theorem f60v1_w9b0_mem (k : Nat) (c59 : PV → (PV → R) → R) (c60v1 : PV → (List PV) → ((List PV) → R) → R) (c82v1 : (List Int) → (List PV) → (Int → PV → (List PV) → R) → R) (retF : (List PV) → R) (NX_w9 : St → R) (p152 : PV) (n157 : Int) (l158 : List PV) : exec (f60v1_E k c59 c60v1 c82v1) f60v1_cw9 (purgeK (f60v1_E k c59 c60v1 c82v1) f60v1_cw9 (loopK NX_w9 (kont (f60v1_E k c59 c60v1 c82v1) f60v1_code [1, 1, 1, 1, 0, 1, 0] (endK (f60v1_E k c59 c60v1 c82v1) Try.f60 [2000000, 2000001] f60v1_un retF)))) (f60v1_hw9_0 p152 n157 l158) = f60v1_w9b0 c59 c60v1 c82v1 (fun y0 => retF y0) (fun n157 l158 => NX_w9 (f60v1_hw9_0 p152 n157 l158)) p152 n157 l158 := by kernel_rfl

noncomputable def f60v1_w9b0N (k : Nat) (c59 : PV → (PV → R) → R) (c60v1 : PV → (List PV) → ((List PV) → R) → R) (c82v1 : (List Int) → (List PV) → (Int → PV → (List PV) → R) → R) (ret0 : (List PV) → R) (next_w9_0 : Int → (List PV) → R) (p152 : PV) (n157 : Int) (l158 : List PV) : R :=
  f60v1_w9b0 c59 c60v1 c82v1 ret0 next_w9_0 p152 n157 l158
theorem f60v1_w9b0_eq (k : Nat) (c59 : PV → (PV → R) → R) (c60v1 : PV → (List PV) → ((List PV) → R) → R) (c82v1 : (List Int) → (List PV) → (Int → PV → (List PV) → R) → R) (retF : (List PV) → R) (NX_w9 : St → R) (p152 : PV) (n157 : Int) (l158 : List PV) : exec (f60v1_E k c59 c60v1 c82v1) f60v1_cw9 (purgeK (f60v1_E k c59 c60v1 c82v1) f60v1_cw9 (loopK NX_w9 (kont (f60v1_E k c59 c60v1 c82v1) f60v1_code [1, 1, 1, 1, 0, 1, 0] (endK (f60v1_E k c59 c60v1 c82v1) Try.f60 [2000000, 2000001] f60v1_un retF)))) (f60v1_hw9_0 p152 n157 l158) = f60v1_w9b0N k c59 c60v1 c82v1 (fun y0 => retF y0) (fun n157 l158 => NX_w9 (f60v1_hw9_0 p152 n157 l158)) p152 n157 l158 :=
  (f60v1_w9b0_mem k c59 c60v1 c82v1 retF NX_w9 p152 n157 l158)

noncomputable def f60v1_w9B (k : Nat) (c59 : PV → (PV → R) → R) (c60v1 : PV → (List PV) → ((List PV) → R) → R) (c82v1 : (List Int) → (List PV) → (Int → PV → (List PV) → R) → R) (ret0 : (List PV) → R) (p152 : PV) (nx : Int × (List PV) → R) : Int × (List PV) → R := (fun s => f60v1_w9b0N k c59 c60v1 c82v1 ret0 (fun n157 l158 => nx (n157, l158)) p152 s.1 s.2)
noncomputable def f60v1_w9N (k : Nat) (c59 : PV → (PV → R) → R) (c60v1 : PV → (List PV) → ((List PV) → R) → R) (c82v1 : (List Int) → (List PV) → (Int → PV → (List PV) → R) → R) (ret0 : (List PV) → R) (p152 : PV) (n157 : Int) (l158 : List PV) : R := loopR (f60v1_w9B k c59 c60v1 c82v1 ret0 p152) k (n157, l158)
theorem f60v1_w9_eq (k : Nat) (c59 : PV → (PV → R) → R) (c60v1 : PV → (List PV) → ((List PV) → R) → R) (c82v1 : (List Int) → (List PV) → (Int → PV → (List PV) → R) → R) (retF : (List PV) → R) (p152 : PV) (n157 : Int) (l158 : List PV) : f60v1_w9A k c59 c60v1 c82v1 retF p152 n157 l158 = f60v1_w9N k c59 c60v1 c82v1 (fun y0 => retF y0) p152 n157 l158 :=
  Eq.mp (by kernel_rfl) (loop_sim (E := (f60v1_E k c59 c60v1 c82v1)) (c := f60v1_cw9) (K := (kont (f60v1_E k c59 c60v1 c82v1) f60v1_code [1, 1, 1, 1, 0, 1, 0] (endK (f60v1_E k c59 c60v1 c82v1) Try.f60 [2000000, 2000001] f60v1_un retF))) (S := Int × (List PV)) (fun s => f60v1_hw9_0 p152 s.1 s.2) (f60v1_w9B k c59 c60v1 c82v1 (fun y0 => retF y0) p152) (fun NX s => by
    exact Eq.mp (by kernel_rfl) (f60v1_w9b0_eq k c59 c60v1 c82v1 retF NX p152 s.1 s.2)) k (n157, l158))

noncomputable def f60v1_e (c59 : PV → (PV → R) → R) (c60v1 : PV → (List PV) → ((List PV) → R) → R) (c82v1 : (List Int) → (List PV) → (Int → PV → (List PV) → R) → R) (ret0 : (List PV) → R) (w1 : PV → Int → (List PV) → R) (w2 : PV → Int → (List PV) → R) (w3 : PV → Int → (List PV) → R) (w4 : PV → Int → (List PV) → R) (w5 : PV → Int → (List PV) → R) (w6 : PV → Int → (List PV) → R) (w7 : PV → Int → (List PV) → R) (w8 : PV → Int → (List PV) → R) (w9 : PV → Int → (List PV) → R) (p1 : PV) (l2 : List PV) : R :=
  bif (decide ((PV.num (PV.fld p1 0)) = (1 : Int))) then
    c82v1 [69] l2 fun n3 p4 l5 =>
    c59 p1 fun p6 =>
    w1 p6 0 l5
  else bif (decide ((PV.num (PV.fld p1 0)) = (2 : Int))) then
    bif (decide ((0 : Int) ≤ (Int.fdiv (PV.num (PV.fld p1 1)) (2 ^ (min ((4 : Int)).toNat 8)))) && decide ((Int.fdiv (PV.num (PV.fld p1 1)) (2 ^ (min ((4 : Int)).toNat 8))) ≤ (IntKind.wrap .u8 ((Int.fdiv (PV.num (PV.fld p1 1)) (2 ^ (min ((4 : Int)).toNat 8))) + (1 : Int)))) && decide ((IntKind.wrap .u8 ((Int.fdiv (PV.num (PV.fld p1 1)) (2 ^ (min ((4 : Int)).toNat 8))) + (1 : Int))) ≤ (List.length [48, 49, 50, 51, 52, 53, 54, 55, 56, 57, 97, 98, 99, 100, 101, 102] : Int))) then
      let s21 : List Int := (List.drop ((Int.fdiv (PV.num (PV.fld p1 1)) (2 ^ (min ((4 : Int)).toNat 8)))).toNat (List.take ((IntKind.wrap .u8 ((Int.fdiv (PV.num (PV.fld p1 1)) (2 ^ (min ((4 : Int)).toNat 8))) + (1 : Int)))).toNat [48, 49, 50, 51, 52, 53, 54, 55, 56, 57, 97, 98, 99, 100, 101, 102]))
      bif (decide ((0 : Int) ≤ (intBit .and .u8 (PV.num (PV.fld p1 1)) 15)) && decide ((intBit .and .u8 (PV.num (PV.fld p1 1)) 15) ≤ (IntKind.wrap .u8 ((intBit .and .u8 (PV.num (PV.fld p1 1)) 15) + (1 : Int)))) && decide ((IntKind.wrap .u8 ((intBit .and .u8 (PV.num (PV.fld p1 1)) 15) + (1 : Int))) ≤ (List.length [48, 49, 50, 51, 52, 53, 54, 55, 56, 57, 97, 98, 99, 100, 101, 102] : Int))) then
        let s22 : List Int := (List.drop ((intBit .and .u8 (PV.num (PV.fld p1 1)) 15)).toNat (List.take ((IntKind.wrap .u8 ((intBit .and .u8 (PV.num (PV.fld p1 1)) 15) + (1 : Int)))).toNat [48, 49, 50, 51, 52, 53, 54, 55, 56, 57, 97, 98, 99, 100, 101, 102]))
        bif (decide (List.length s21 + List.length s22 ≤ 4611686018427387904)) then
          c82v1 (s21 ++ s22) l2 fun n23 p24 l25 =>
          c59 p1 fun p26 =>
          w2 p26 0 l25
        else none
      else none
    else none
  else bif (decide ((PV.num (PV.fld p1 0)) = (3 : Int))) then
    bif (decide ((List.length (PV.els (PV.fld p1 2)) : Int) < (2 : Int))) then
      c82v1 [40] l2 fun n41 p42 l43 =>
      c59 p1 fun p44 =>
      w3 p44 0 l43
    else c82v1 [40] l2 fun n59 p60 l61 =>
    c59 p1 fun p62 =>
    w4 p62 0 l61
  else bif (decide ((PV.num (PV.fld p1 0)) = (4 : Int))) then
    c82v1 [76] l2 fun n77 p78 l79 =>
    c59 p1 fun p80 =>
    w5 p80 0 l79
  else bif (decide ((PV.num (PV.fld p1 0)) = (5 : Int))) then
    c82v1 [82] l2 fun n95 p96 l97 =>
    c59 p1 fun p98 =>
    w6 p98 0 l97
  else bif (decide ((PV.num (PV.fld p1 0)) = (6 : Int))) then
    c82v1 [91] l2 fun n113 p114 l115 =>
    c59 p1 fun p116 =>
    w7 p116 0 l115
  else bif (decide ((PV.num (PV.fld p1 0)) = (7 : Int))) then
    c82v1 [60] l2 fun n131 p132 l133 =>
    c59 p1 fun p134 =>
    w8 p134 0 l133
  else c82v1 [63] l2 fun n149 p150 l151 =>
  c59 p1 fun p152 =>
  w9 p152 0 l151

theorem f60v1_e_mem (k : Nat) (c59 : PV → (PV → R) → R) (c60v1 : PV → (List PV) → ((List PV) → R) → R) (c82v1 : (List Int) → (List PV) → (Int → PV → (List PV) → R) → R) (retF : (List PV) → R) (p1 : PV) (l2 : List PV) : exec (f60v1_E k c59 c60v1 c82v1) f60v1_code (endK (f60v1_E k c59 c60v1 c82v1) Try.f60 [2000000, 2000001] f60v1_un retF) ⟨[.ptr 2000000 [], .val 30 p1, .undef, .undef, .undef, .undef, .undef, .undef, .undef, .undef, .undef, .undef, .undef, .undef, .undef, .undef, .undef, .undef, .undef, .undef, .undef, .undef, .undef, .undef, .undef, .undef, .undef, .undef, .undef, .undef, .undef, .undef, .undef, .undef, .undef, .undef, .undef, .undef, .undef, .undef, .undef, .undef, .undef, .undef, .undef, .undef, .undef, .undef, .undef, .undef, .undef, .undef, .undef, .undef, .undef, .undef, .undef, .undef, .undef, .undef, .undef, .undef, .undef, .undef, .undef, .undef, .undef], [(2000000, .box 76 (.agg 76 [.ptr 2000000 [], .own 43 2000001])), (2000001, .row 5 l2)]⟩ = f60v1_e c59 c60v1 c82v1 (fun y0 => retF y0) (fun p6 n11 l12 => f60v1_w1A k c59 c60v1 c82v1 retF p6 n11 l12) (fun p26 n31 l32 => f60v1_w2A k c59 c60v1 c82v1 retF p26 n31 l32) (fun p44 n49 l50 => f60v1_w3A k c59 c60v1 c82v1 retF p44 n49 l50) (fun p62 n67 l68 => f60v1_w4A k c59 c60v1 c82v1 retF p62 n67 l68) (fun p80 n85 l86 => f60v1_w5A k c59 c60v1 c82v1 retF p80 n85 l86) (fun p98 n103 l104 => f60v1_w6A k c59 c60v1 c82v1 retF p98 n103 l104) (fun p116 n121 l122 => f60v1_w7A k c59 c60v1 c82v1 retF p116 n121 l122) (fun p134 n139 l140 => f60v1_w8A k c59 c60v1 c82v1 retF p134 n139 l140) (fun p152 n157 l158 => f60v1_w9A k c59 c60v1 c82v1 retF p152 n157 l158) p1 l2 := by kernel_rfl

noncomputable def f60v1_N (k : Nat) (c59 : PV → (PV → R) → R) (c60v1 : PV → (List PV) → ((List PV) → R) → R) (c82v1 : (List Int) → (List PV) → (Int → PV → (List PV) → R) → R) (ret0 : (List PV) → R) (p1 : PV) (l2 : List PV) : R :=
  f60v1_e c59 c60v1 c82v1 ret0 (fun p6 n11 l12 => f60v1_w1N k c59 c60v1 c82v1 ret0 p6 n11 l12) (fun p26 n31 l32 => f60v1_w2N k c59 c60v1 c82v1 ret0 p26 n31 l32) (fun p44 n49 l50 => f60v1_w3N k c59 c60v1 c82v1 ret0 p44 n49 l50) (fun p62 n67 l68 => f60v1_w4N k c59 c60v1 c82v1 ret0 p62 n67 l68) (fun p80 n85 l86 => f60v1_w5N k c59 c60v1 c82v1 ret0 p80 n85 l86) (fun p98 n103 l104 => f60v1_w6N k c59 c60v1 c82v1 ret0 p98 n103 l104) (fun p116 n121 l122 => f60v1_w7N k c59 c60v1 c82v1 ret0 p116 n121 l122) (fun p134 n139 l140 => f60v1_w8N k c59 c60v1 c82v1 ret0 p134 n139 l140) (fun p152 n157 l158 => f60v1_w9N k c59 c60v1 c82v1 ret0 p152 n157 l158) p1 l2
theorem f60v1_eq (k : Nat) (c59 : PV → (PV → R) → R) (c60v1 : PV → (List PV) → ((List PV) → R) → R) (c82v1 : (List Int) → (List PV) → (Int → PV → (List PV) → R) → R) (retF : (List PV) → R) (p1 : PV) (l2 : List PV) : exec (f60v1_E k c59 c60v1 c82v1) f60v1_code (endK (f60v1_E k c59 c60v1 c82v1) Try.f60 [2000000, 2000001] f60v1_un retF) ⟨[.ptr 2000000 [], .val 30 p1, .undef, .undef, .undef, .undef, .undef, .undef, .undef, .undef, .undef, .undef, .undef, .undef, .undef, .undef, .undef, .undef, .undef, .undef, .undef, .undef, .undef, .undef, .undef, .undef, .undef, .undef, .undef, .undef, .undef, .undef, .undef, .undef, .undef, .undef, .undef, .undef, .undef, .undef, .undef, .undef, .undef, .undef, .undef, .undef, .undef, .undef, .undef, .undef, .undef, .undef, .undef, .undef, .undef, .undef, .undef, .undef, .undef, .undef, .undef, .undef, .undef, .undef, .undef, .undef, .undef], [(2000000, .box 76 (.agg 76 [.ptr 2000000 [], .own 43 2000001])), (2000001, .row 5 l2)]⟩ = f60v1_N k c59 c60v1 c82v1 (fun y0 => retF y0) p1 l2 :=
  (f60v1_e_mem k c59 c60v1 c82v1 retF p1 l2).trans (by rw [show (fun p6 n11 l12 => f60v1_w1A k c59 c60v1 c82v1 retF p6 n11 l12) = (fun p6 n11 l12 => f60v1_w1N k c59 c60v1 c82v1 (fun y0 => retF y0) p6 n11 l12) from funext fun p6 => funext fun n11 => funext fun l12 => f60v1_w1_eq k c59 c60v1 c82v1 retF p6 n11 l12, show (fun p26 n31 l32 => f60v1_w2A k c59 c60v1 c82v1 retF p26 n31 l32) = (fun p26 n31 l32 => f60v1_w2N k c59 c60v1 c82v1 (fun y0 => retF y0) p26 n31 l32) from funext fun p26 => funext fun n31 => funext fun l32 => f60v1_w2_eq k c59 c60v1 c82v1 retF p26 n31 l32, show (fun p44 n49 l50 => f60v1_w3A k c59 c60v1 c82v1 retF p44 n49 l50) = (fun p44 n49 l50 => f60v1_w3N k c59 c60v1 c82v1 (fun y0 => retF y0) p44 n49 l50) from funext fun p44 => funext fun n49 => funext fun l50 => f60v1_w3_eq k c59 c60v1 c82v1 retF p44 n49 l50, show (fun p62 n67 l68 => f60v1_w4A k c59 c60v1 c82v1 retF p62 n67 l68) = (fun p62 n67 l68 => f60v1_w4N k c59 c60v1 c82v1 (fun y0 => retF y0) p62 n67 l68) from funext fun p62 => funext fun n67 => funext fun l68 => f60v1_w4_eq k c59 c60v1 c82v1 retF p62 n67 l68, show (fun p80 n85 l86 => f60v1_w5A k c59 c60v1 c82v1 retF p80 n85 l86) = (fun p80 n85 l86 => f60v1_w5N k c59 c60v1 c82v1 (fun y0 => retF y0) p80 n85 l86) from funext fun p80 => funext fun n85 => funext fun l86 => f60v1_w5_eq k c59 c60v1 c82v1 retF p80 n85 l86, show (fun p98 n103 l104 => f60v1_w6A k c59 c60v1 c82v1 retF p98 n103 l104) = (fun p98 n103 l104 => f60v1_w6N k c59 c60v1 c82v1 (fun y0 => retF y0) p98 n103 l104) from funext fun p98 => funext fun n103 => funext fun l104 => f60v1_w6_eq k c59 c60v1 c82v1 retF p98 n103 l104, show (fun p116 n121 l122 => f60v1_w7A k c59 c60v1 c82v1 retF p116 n121 l122) = (fun p116 n121 l122 => f60v1_w7N k c59 c60v1 c82v1 (fun y0 => retF y0) p116 n121 l122) from funext fun p116 => funext fun n121 => funext fun l122 => f60v1_w7_eq k c59 c60v1 c82v1 retF p116 n121 l122, show (fun p134 n139 l140 => f60v1_w8A k c59 c60v1 c82v1 retF p134 n139 l140) = (fun p134 n139 l140 => f60v1_w8N k c59 c60v1 c82v1 (fun y0 => retF y0) p134 n139 l140) from funext fun p134 => funext fun n139 => funext fun l140 => f60v1_w8_eq k c59 c60v1 c82v1 retF p134 n139 l140, show (fun p152 n157 l158 => f60v1_w9A k c59 c60v1 c82v1 retF p152 n157 l158) = (fun p152 n157 l158 => f60v1_w9N k c59 c60v1 c82v1 (fun y0 => retF y0) p152 n157 l158) from funext fun p152 => funext fun n157 => funext fun l158 => f60v1_w9_eq k c59 c60v1 c82v1 retF p152 n157 l158]; rfl)

noncomputable def G60v1 : Nat → PV → (List PV) → ((List PV) → R) → R
  | 0, _, _, _ => none
  | k + 1, p1, l2, ret0 => f60v1_N k (G59 k) (G60v1 k) (G82v1 k) ret0 p1 l2
theorem S60v1 : ∀ k, Snd Try.prog 60 f60v1_I f60v1_O (fun x ret => G60v1 k x.1 x.2 (fun y0 => ret y0))
  | 0 => snd_none
  | k + 1 => snd_step (E := f60v1_E k (G59 k) (G60v1 k) (G82v1 k)) rfl laidOut noNums (orc_ok (S59 k).o f59_D_ok (orc_ok (S60v1 k).o f60v1_D_ok (orc_ok (S82v1 k).o f82v1_D_ok orc0_ok))) (f := 60) (fn := Try.f60) (code := f60v1_code) Try.func60 (by kernel_rfl) (drawsOk_of laidOut (orc_ok (S59 k).o f59_D_ok (orc_ok (S60v1 k).o f60v1_D_ok (orc_ok (S82v1 k).o f82v1_D_ok orc0_ok))) mixed (by kernel_rfl)) f60v1_un f60v1_un_ok [2000000, 2000001] (fun _ => rfl)
      (fun x ret => f60v1_eq k (G59 k) (G60v1 k) (G82v1 k) ret x.1 x.2)

/- catchpole/value.text -/
noncomputable def f60_I : PV × PV × (List PV) → List SV × Obs := fun x => ([.ptr 2000000 [], .val 30 x.1], [(2000000, .box 76 (.agg 76 [.val 74 x.2.1, .own 43 2000001])), (2000001, .row 5 x.2.2)])
noncomputable def f60_D : List SV → Obs → Option (PV × PV × (List PV))
  | [.ptr 2000000 [], .val 30 p1], [(2000000, .box 76 (.agg 76 [.val 74 p2, .own 43 2000001])), (2000001, .row 5 l3)] => some (p1, p2, l3)
  | _, _ => none
theorem f60_D_ok (args : List SV) (B : Obs) (x : PV × PV × (List PV)) (h : f60_D args B = some x) : f60_I x = (args, B) := by
  unfold f60_D at h
  split at h
  · injection h with h; subst h; rfl
  · cases h
noncomputable def f60_O : (List PV) → Out := (fun y => ([], [(2000000, .box 76 (.agg 76 [.ptr 2000000 [], .own 43 2000001])), (2000001, .row 5 y)]))
noncomputable def f60_un : Out → Option ((List PV))
  | ([], [(2000000, .box 76 (.agg 76 [.ptr 2000000 [], .own 43 2000001])), (2000001, .row 5 y0)]) => some y0
  | _ => none
theorem f60_un_ok (o : Out) (y : (List PV)) (h : f60_un o = some y) : o = f60_O y := by
  unfold f60_un at h
  split at h
  · injection h with h; subst h; rfl
  · cases h
noncomputable def f60_msk : Nat → Option (List Nat) := fun key => bif key == 63 then some [0, 5, 49, 50, 51] else none
noncomputable def f60_C (c59 : PV → (PV → R) → R) (c60v1 : PV → (List PV) → ((List PV) → R) → R) (c82 : (List Int) → PV → (List PV) → (Int → PV → (List PV) → R) → R) (c82v1 : (List Int) → (List PV) → (Int → PV → (List PV) → R) → R) : Oracle := orc 59 f59_D f59_O (fun x ret => c59 x (fun y0 => ret y0)) <| orc 60 f60v1_D f60v1_O (fun x ret => c60v1 x.1 x.2 (fun y0 => ret y0)) <| orc 82 f82_D f82_O (fun x ret => c82 x.1 x.2.1 x.2.2 (fun y0 y1 y2 => ret (y0, y1, y2))) <| orc 82 f82v1_D f82v1_O (fun x ret => c82v1 x.1 x.2 (fun y0 y1 y2 => ret (y0, y1, y2))) <| orc0
noncomputable def f60_E (k : Nat) (c59 : PV → (PV → R) → R) (c60v1 : PV → (List PV) → ((List PV) → R) → R) (c82 : (List Int) → PV → (List PV) → (Int → PV → (List PV) → R) → R) (c82v1 : (List Int) → (List PV) → (Int → PV → (List PV) → R) → R) : Env := { P := Try.prog, nilOwn := fun d => false, fldOwn := fun d i => false, ownPar := ownPars, ownRet := false, mask := f60_msk, fuel := k, C := f60_C c59 c60v1 c82 c82v1 }
noncomputable def f60_code : Code := Try.f60.body.getD .skip
noncomputable def f60_cw1 : Code := subC f60_code [1, 1, 1, 1, 0, 1, 0, 0]
noncomputable def f60_hw1_0 (p7 : PV) (n12 : Int) (l13 : List PV) : St := ⟨[.ptr 2000000 [], .dead, .dead, .dead, .dead, .str [], .dead, .dead, .dead, .dead, .dead, .dead, .dead, .dead, .dead, .dead, .dead, .dead, .dead, .dead, .dead, .dead, .dead, .dead, .dead, .dead, .dead, .dead, .dead, .dead, .dead, .dead, .dead, .dead, .dead, .dead, .dead, .dead, .dead, .dead, .dead, .dead, .dead, .dead, .dead, .dead, .dead, .dead, .dead, .val 28 p7, .int .i64 (List.length (PV.els p7) : Int), .int .i64 n12, .dead, .dead, .dead, .dead, .dead, .dead, .dead, .dead, .dead, .dead, .dead, .dead, .dead, .dead, .dead], [(2000000, .box 76 (.agg 76 [.ptr 2000000 [], .own 43 2000001])), (2000001, .row 5 l13)]⟩
noncomputable def f60_w1A (k : Nat) (c59 : PV → (PV → R) → R) (c60v1 : PV → (List PV) → ((List PV) → R) → R) (c82 : (List Int) → PV → (List PV) → (Int → PV → (List PV) → R) → R) (c82v1 : (List Int) → (List PV) → (Int → PV → (List PV) → R) → R) (retF : (List PV) → R) (p7 : PV) (n12 : Int) (l13 : List PV) : R := loopM (f60_E k c59 c60v1 c82 c82v1) f60_cw1 (kont (f60_E k c59 c60v1 c82 c82v1) f60_code [1, 1, 1, 1, 0, 1, 0] (endK (f60_E k c59 c60v1 c82 c82v1) Try.f60 [2000000, 2000001] f60_un retF)) k (f60_hw1_0 p7 n12 l13)
noncomputable def f60_w1b0 (c59 : PV → (PV → R) → R) (c60v1 : PV → (List PV) → ((List PV) → R) → R) (c82 : (List Int) → PV → (List PV) → (Int → PV → (List PV) → R) → R) (c82v1 : (List Int) → (List PV) → (Int → PV → (List PV) → R) → R) (ret0 : (List PV) → R) (next_w1_0 : Int → (List PV) → R) (p7 : PV) (n12 : Int) (l13 : List PV) : R :=
  bif (decide (n12 < (List.length (PV.els p7) : Int))) then
    bif (true && decide ((0 : Int) ≤ n12) && decide (n12 < (List.length (PV.els p7) : Int))) then
      bif (decide ((0 : Int) < n12)) then
        c82v1 [44] l13 fun n14 p15 l16 =>
        c60v1 (List.getD (PV.els p7) (n12).toNat PV.nil) l16 fun l17 =>
        next_w1_0 (IntKind.wrap .i64 (n12 + (1 : Int))) l17
      else c60v1 (List.getD (PV.els p7) (n12).toNat PV.nil) l13 fun l18 =>
      next_w1_0 (IntKind.wrap .i64 (n12 + (1 : Int))) l18
    else none
  else c82v1 [] l13 fun n19 p20 l21 =>
  ret0 l21

theorem f60_w1b0_mem (k : Nat) (c59 : PV → (PV → R) → R) (c60v1 : PV → (List PV) → ((List PV) → R) → R) (c82 : (List Int) → PV → (List PV) → (Int → PV → (List PV) → R) → R) (c82v1 : (List Int) → (List PV) → (Int → PV → (List PV) → R) → R) (retF : (List PV) → R) (NX_w1 : St → R) (p7 : PV) (n12 : Int) (l13 : List PV) : exec (f60_E k c59 c60v1 c82 c82v1) f60_cw1 (purgeK (f60_E k c59 c60v1 c82 c82v1) f60_cw1 (loopK NX_w1 (kont (f60_E k c59 c60v1 c82 c82v1) f60_code [1, 1, 1, 1, 0, 1, 0] (endK (f60_E k c59 c60v1 c82 c82v1) Try.f60 [2000000, 2000001] f60_un retF)))) (f60_hw1_0 p7 n12 l13) = f60_w1b0 c59 c60v1 c82 c82v1 (fun y0 => retF y0) (fun n12 l13 => NX_w1 (f60_hw1_0 p7 n12 l13)) p7 n12 l13 := by kernel_rfl

noncomputable def f60_w1b0N (k : Nat) (c59 : PV → (PV → R) → R) (c60v1 : PV → (List PV) → ((List PV) → R) → R) (c82 : (List Int) → PV → (List PV) → (Int → PV → (List PV) → R) → R) (c82v1 : (List Int) → (List PV) → (Int → PV → (List PV) → R) → R) (ret0 : (List PV) → R) (next_w1_0 : Int → (List PV) → R) (p7 : PV) (n12 : Int) (l13 : List PV) : R :=
  f60_w1b0 c59 c60v1 c82 c82v1 ret0 next_w1_0 p7 n12 l13
theorem f60_w1b0_eq (k : Nat) (c59 : PV → (PV → R) → R) (c60v1 : PV → (List PV) → ((List PV) → R) → R) (c82 : (List Int) → PV → (List PV) → (Int → PV → (List PV) → R) → R) (c82v1 : (List Int) → (List PV) → (Int → PV → (List PV) → R) → R) (retF : (List PV) → R) (NX_w1 : St → R) (p7 : PV) (n12 : Int) (l13 : List PV) : exec (f60_E k c59 c60v1 c82 c82v1) f60_cw1 (purgeK (f60_E k c59 c60v1 c82 c82v1) f60_cw1 (loopK NX_w1 (kont (f60_E k c59 c60v1 c82 c82v1) f60_code [1, 1, 1, 1, 0, 1, 0] (endK (f60_E k c59 c60v1 c82 c82v1) Try.f60 [2000000, 2000001] f60_un retF)))) (f60_hw1_0 p7 n12 l13) = f60_w1b0N k c59 c60v1 c82 c82v1 (fun y0 => retF y0) (fun n12 l13 => NX_w1 (f60_hw1_0 p7 n12 l13)) p7 n12 l13 :=
  (f60_w1b0_mem k c59 c60v1 c82 c82v1 retF NX_w1 p7 n12 l13)

noncomputable def f60_w1B (k : Nat) (c59 : PV → (PV → R) → R) (c60v1 : PV → (List PV) → ((List PV) → R) → R) (c82 : (List Int) → PV → (List PV) → (Int → PV → (List PV) → R) → R) (c82v1 : (List Int) → (List PV) → (Int → PV → (List PV) → R) → R) (ret0 : (List PV) → R) (p7 : PV) (nx : Int × (List PV) → R) : Int × (List PV) → R := (fun s => f60_w1b0N k c59 c60v1 c82 c82v1 ret0 (fun n12 l13 => nx (n12, l13)) p7 s.1 s.2)
noncomputable def f60_w1N (k : Nat) (c59 : PV → (PV → R) → R) (c60v1 : PV → (List PV) → ((List PV) → R) → R) (c82 : (List Int) → PV → (List PV) → (Int → PV → (List PV) → R) → R) (c82v1 : (List Int) → (List PV) → (Int → PV → (List PV) → R) → R) (ret0 : (List PV) → R) (p7 : PV) (n12 : Int) (l13 : List PV) : R := loopR (f60_w1B k c59 c60v1 c82 c82v1 ret0 p7) k (n12, l13)
theorem f60_w1_eq (k : Nat) (c59 : PV → (PV → R) → R) (c60v1 : PV → (List PV) → ((List PV) → R) → R) (c82 : (List Int) → PV → (List PV) → (Int → PV → (List PV) → R) → R) (c82v1 : (List Int) → (List PV) → (Int → PV → (List PV) → R) → R) (retF : (List PV) → R) (p7 : PV) (n12 : Int) (l13 : List PV) : f60_w1A k c59 c60v1 c82 c82v1 retF p7 n12 l13 = f60_w1N k c59 c60v1 c82 c82v1 (fun y0 => retF y0) p7 n12 l13 :=
  Eq.mp (by kernel_rfl) (loop_sim (E := (f60_E k c59 c60v1 c82 c82v1)) (c := f60_cw1) (K := (kont (f60_E k c59 c60v1 c82 c82v1) f60_code [1, 1, 1, 1, 0, 1, 0] (endK (f60_E k c59 c60v1 c82 c82v1) Try.f60 [2000000, 2000001] f60_un retF))) (S := Int × (List PV)) (fun s => f60_hw1_0 p7 s.1 s.2) (f60_w1B k c59 c60v1 c82 c82v1 (fun y0 => retF y0) p7) (fun NX s => by
    exact Eq.mp (by kernel_rfl) (f60_w1b0_eq k c59 c60v1 c82 c82v1 retF NX p7 s.1 s.2)) k (n12, l13))

noncomputable def f60_cw2 : Code := subC f60_code [1, 1, 1, 1, 0, 1, 0, 0]
noncomputable def f60_hw2_0 (p27 : PV) (n32 : Int) (l33 : List PV) : St := ⟨[.ptr 2000000 [], .dead, .dead, .dead, .dead, .str [], .dead, .dead, .dead, .dead, .dead, .dead, .dead, .dead, .dead, .dead, .dead, .dead, .dead, .dead, .dead, .dead, .dead, .dead, .dead, .dead, .dead, .dead, .dead, .dead, .dead, .dead, .dead, .dead, .dead, .dead, .dead, .dead, .dead, .dead, .dead, .dead, .dead, .dead, .dead, .dead, .dead, .dead, .dead, .val 28 p27, .int .i64 (List.length (PV.els p27) : Int), .int .i64 n32, .dead, .dead, .dead, .dead, .dead, .dead, .dead, .dead, .dead, .dead, .dead, .dead, .dead, .dead, .dead], [(2000000, .box 76 (.agg 76 [.ptr 2000000 [], .own 43 2000001])), (2000001, .row 5 l33)]⟩
noncomputable def f60_w2A (k : Nat) (c59 : PV → (PV → R) → R) (c60v1 : PV → (List PV) → ((List PV) → R) → R) (c82 : (List Int) → PV → (List PV) → (Int → PV → (List PV) → R) → R) (c82v1 : (List Int) → (List PV) → (Int → PV → (List PV) → R) → R) (retF : (List PV) → R) (p27 : PV) (n32 : Int) (l33 : List PV) : R := loopM (f60_E k c59 c60v1 c82 c82v1) f60_cw2 (kont (f60_E k c59 c60v1 c82 c82v1) f60_code [1, 1, 1, 1, 0, 1, 0] (endK (f60_E k c59 c60v1 c82 c82v1) Try.f60 [2000000, 2000001] f60_un retF)) k (f60_hw2_0 p27 n32 l33)
noncomputable def f60_w2b0 (c59 : PV → (PV → R) → R) (c60v1 : PV → (List PV) → ((List PV) → R) → R) (c82 : (List Int) → PV → (List PV) → (Int → PV → (List PV) → R) → R) (c82v1 : (List Int) → (List PV) → (Int → PV → (List PV) → R) → R) (ret0 : (List PV) → R) (next_w2_0 : Int → (List PV) → R) (p27 : PV) (n32 : Int) (l33 : List PV) : R :=
  bif (decide (n32 < (List.length (PV.els p27) : Int))) then
    bif (true && decide ((0 : Int) ≤ n32) && decide (n32 < (List.length (PV.els p27) : Int))) then
      bif (decide ((0 : Int) < n32)) then
        c82v1 [44] l33 fun n34 p35 l36 =>
        c60v1 (List.getD (PV.els p27) (n32).toNat PV.nil) l36 fun l37 =>
        next_w2_0 (IntKind.wrap .i64 (n32 + (1 : Int))) l37
      else c60v1 (List.getD (PV.els p27) (n32).toNat PV.nil) l33 fun l38 =>
      next_w2_0 (IntKind.wrap .i64 (n32 + (1 : Int))) l38
    else none
  else c82v1 [] l33 fun n39 p40 l41 =>
  ret0 l41

theorem f60_w2b0_mem (k : Nat) (c59 : PV → (PV → R) → R) (c60v1 : PV → (List PV) → ((List PV) → R) → R) (c82 : (List Int) → PV → (List PV) → (Int → PV → (List PV) → R) → R) (c82v1 : (List Int) → (List PV) → (Int → PV → (List PV) → R) → R) (retF : (List PV) → R) (NX_w2 : St → R) (p27 : PV) (n32 : Int) (l33 : List PV) : exec (f60_E k c59 c60v1 c82 c82v1) f60_cw2 (purgeK (f60_E k c59 c60v1 c82 c82v1) f60_cw2 (loopK NX_w2 (kont (f60_E k c59 c60v1 c82 c82v1) f60_code [1, 1, 1, 1, 0, 1, 0] (endK (f60_E k c59 c60v1 c82 c82v1) Try.f60 [2000000, 2000001] f60_un retF)))) (f60_hw2_0 p27 n32 l33) = f60_w2b0 c59 c60v1 c82 c82v1 (fun y0 => retF y0) (fun n32 l33 => NX_w2 (f60_hw2_0 p27 n32 l33)) p27 n32 l33 := by kernel_rfl

noncomputable def f60_w2b0N (k : Nat) (c59 : PV → (PV → R) → R) (c60v1 : PV → (List PV) → ((List PV) → R) → R) (c82 : (List Int) → PV → (List PV) → (Int → PV → (List PV) → R) → R) (c82v1 : (List Int) → (List PV) → (Int → PV → (List PV) → R) → R) (ret0 : (List PV) → R) (next_w2_0 : Int → (List PV) → R) (p27 : PV) (n32 : Int) (l33 : List PV) : R :=
  f60_w2b0 c59 c60v1 c82 c82v1 ret0 next_w2_0 p27 n32 l33
theorem f60_w2b0_eq (k : Nat) (c59 : PV → (PV → R) → R) (c60v1 : PV → (List PV) → ((List PV) → R) → R) (c82 : (List Int) → PV → (List PV) → (Int → PV → (List PV) → R) → R) (c82v1 : (List Int) → (List PV) → (Int → PV → (List PV) → R) → R) (retF : (List PV) → R) (NX_w2 : St → R) (p27 : PV) (n32 : Int) (l33 : List PV) : exec (f60_E k c59 c60v1 c82 c82v1) f60_cw2 (purgeK (f60_E k c59 c60v1 c82 c82v1) f60_cw2 (loopK NX_w2 (kont (f60_E k c59 c60v1 c82 c82v1) f60_code [1, 1, 1, 1, 0, 1, 0] (endK (f60_E k c59 c60v1 c82 c82v1) Try.f60 [2000000, 2000001] f60_un retF)))) (f60_hw2_0 p27 n32 l33) = f60_w2b0N k c59 c60v1 c82 c82v1 (fun y0 => retF y0) (fun n32 l33 => NX_w2 (f60_hw2_0 p27 n32 l33)) p27 n32 l33 :=
  (f60_w2b0_mem k c59 c60v1 c82 c82v1 retF NX_w2 p27 n32 l33)

noncomputable def f60_w2B (k : Nat) (c59 : PV → (PV → R) → R) (c60v1 : PV → (List PV) → ((List PV) → R) → R) (c82 : (List Int) → PV → (List PV) → (Int → PV → (List PV) → R) → R) (c82v1 : (List Int) → (List PV) → (Int → PV → (List PV) → R) → R) (ret0 : (List PV) → R) (p27 : PV) (nx : Int × (List PV) → R) : Int × (List PV) → R := (fun s => f60_w2b0N k c59 c60v1 c82 c82v1 ret0 (fun n32 l33 => nx (n32, l33)) p27 s.1 s.2)
noncomputable def f60_w2N (k : Nat) (c59 : PV → (PV → R) → R) (c60v1 : PV → (List PV) → ((List PV) → R) → R) (c82 : (List Int) → PV → (List PV) → (Int → PV → (List PV) → R) → R) (c82v1 : (List Int) → (List PV) → (Int → PV → (List PV) → R) → R) (ret0 : (List PV) → R) (p27 : PV) (n32 : Int) (l33 : List PV) : R := loopR (f60_w2B k c59 c60v1 c82 c82v1 ret0 p27) k (n32, l33)
theorem f60_w2_eq (k : Nat) (c59 : PV → (PV → R) → R) (c60v1 : PV → (List PV) → ((List PV) → R) → R) (c82 : (List Int) → PV → (List PV) → (Int → PV → (List PV) → R) → R) (c82v1 : (List Int) → (List PV) → (Int → PV → (List PV) → R) → R) (retF : (List PV) → R) (p27 : PV) (n32 : Int) (l33 : List PV) : f60_w2A k c59 c60v1 c82 c82v1 retF p27 n32 l33 = f60_w2N k c59 c60v1 c82 c82v1 (fun y0 => retF y0) p27 n32 l33 :=
  Eq.mp (by kernel_rfl) (loop_sim (E := (f60_E k c59 c60v1 c82 c82v1)) (c := f60_cw2) (K := (kont (f60_E k c59 c60v1 c82 c82v1) f60_code [1, 1, 1, 1, 0, 1, 0] (endK (f60_E k c59 c60v1 c82 c82v1) Try.f60 [2000000, 2000001] f60_un retF))) (S := Int × (List PV)) (fun s => f60_hw2_0 p27 s.1 s.2) (f60_w2B k c59 c60v1 c82 c82v1 (fun y0 => retF y0) p27) (fun NX s => by
    exact Eq.mp (by kernel_rfl) (f60_w2b0_eq k c59 c60v1 c82 c82v1 retF NX p27 s.1 s.2)) k (n32, l33))

noncomputable def f60_cw3 : Code := subC f60_code [1, 1, 1, 1, 0, 1, 0, 0]
noncomputable def f60_hw3_0 (p45 : PV) (n50 : Int) (l51 : List PV) : St := ⟨[.ptr 2000000 [], .dead, .dead, .dead, .dead, .str [44, 41], .dead, .dead, .dead, .dead, .dead, .dead, .dead, .dead, .dead, .dead, .dead, .dead, .dead, .dead, .dead, .dead, .dead, .dead, .dead, .dead, .dead, .dead, .dead, .dead, .dead, .dead, .dead, .dead, .dead, .dead, .dead, .dead, .dead, .dead, .dead, .dead, .dead, .dead, .dead, .dead, .dead, .dead, .dead, .val 28 p45, .int .i64 (List.length (PV.els p45) : Int), .int .i64 n50, .dead, .dead, .dead, .dead, .dead, .dead, .dead, .dead, .dead, .dead, .dead, .dead, .dead, .dead, .dead], [(2000000, .box 76 (.agg 76 [.ptr 2000000 [], .own 43 2000001])), (2000001, .row 5 l51)]⟩
noncomputable def f60_w3A (k : Nat) (c59 : PV → (PV → R) → R) (c60v1 : PV → (List PV) → ((List PV) → R) → R) (c82 : (List Int) → PV → (List PV) → (Int → PV → (List PV) → R) → R) (c82v1 : (List Int) → (List PV) → (Int → PV → (List PV) → R) → R) (retF : (List PV) → R) (p45 : PV) (n50 : Int) (l51 : List PV) : R := loopM (f60_E k c59 c60v1 c82 c82v1) f60_cw3 (kont (f60_E k c59 c60v1 c82 c82v1) f60_code [1, 1, 1, 1, 0, 1, 0] (endK (f60_E k c59 c60v1 c82 c82v1) Try.f60 [2000000, 2000001] f60_un retF)) k (f60_hw3_0 p45 n50 l51)
noncomputable def f60_w3b0 (c59 : PV → (PV → R) → R) (c60v1 : PV → (List PV) → ((List PV) → R) → R) (c82 : (List Int) → PV → (List PV) → (Int → PV → (List PV) → R) → R) (c82v1 : (List Int) → (List PV) → (Int → PV → (List PV) → R) → R) (ret0 : (List PV) → R) (next_w3_0 : Int → (List PV) → R) (p45 : PV) (n50 : Int) (l51 : List PV) : R :=
  bif (decide (n50 < (List.length (PV.els p45) : Int))) then
    bif (true && decide ((0 : Int) ≤ n50) && decide (n50 < (List.length (PV.els p45) : Int))) then
      bif (decide ((0 : Int) < n50)) then
        c82v1 [44] l51 fun n52 p53 l54 =>
        c60v1 (List.getD (PV.els p45) (n50).toNat PV.nil) l54 fun l55 =>
        next_w3_0 (IntKind.wrap .i64 (n50 + (1 : Int))) l55
      else c60v1 (List.getD (PV.els p45) (n50).toNat PV.nil) l51 fun l56 =>
      next_w3_0 (IntKind.wrap .i64 (n50 + (1 : Int))) l56
    else none
  else c82v1 [44, 41] l51 fun n57 p58 l59 =>
  ret0 l59

theorem f60_w3b0_mem (k : Nat) (c59 : PV → (PV → R) → R) (c60v1 : PV → (List PV) → ((List PV) → R) → R) (c82 : (List Int) → PV → (List PV) → (Int → PV → (List PV) → R) → R) (c82v1 : (List Int) → (List PV) → (Int → PV → (List PV) → R) → R) (retF : (List PV) → R) (NX_w3 : St → R) (p45 : PV) (n50 : Int) (l51 : List PV) : exec (f60_E k c59 c60v1 c82 c82v1) f60_cw3 (purgeK (f60_E k c59 c60v1 c82 c82v1) f60_cw3 (loopK NX_w3 (kont (f60_E k c59 c60v1 c82 c82v1) f60_code [1, 1, 1, 1, 0, 1, 0] (endK (f60_E k c59 c60v1 c82 c82v1) Try.f60 [2000000, 2000001] f60_un retF)))) (f60_hw3_0 p45 n50 l51) = f60_w3b0 c59 c60v1 c82 c82v1 (fun y0 => retF y0) (fun n50 l51 => NX_w3 (f60_hw3_0 p45 n50 l51)) p45 n50 l51 := by kernel_rfl

noncomputable def f60_w3b0N (k : Nat) (c59 : PV → (PV → R) → R) (c60v1 : PV → (List PV) → ((List PV) → R) → R) (c82 : (List Int) → PV → (List PV) → (Int → PV → (List PV) → R) → R) (c82v1 : (List Int) → (List PV) → (Int → PV → (List PV) → R) → R) (ret0 : (List PV) → R) (next_w3_0 : Int → (List PV) → R) (p45 : PV) (n50 : Int) (l51 : List PV) : R :=
  f60_w3b0 c59 c60v1 c82 c82v1 ret0 next_w3_0 p45 n50 l51
theorem f60_w3b0_eq (k : Nat) (c59 : PV → (PV → R) → R) (c60v1 : PV → (List PV) → ((List PV) → R) → R) (c82 : (List Int) → PV → (List PV) → (Int → PV → (List PV) → R) → R) (c82v1 : (List Int) → (List PV) → (Int → PV → (List PV) → R) → R) (retF : (List PV) → R) (NX_w3 : St → R) (p45 : PV) (n50 : Int) (l51 : List PV) : exec (f60_E k c59 c60v1 c82 c82v1) f60_cw3 (purgeK (f60_E k c59 c60v1 c82 c82v1) f60_cw3 (loopK NX_w3 (kont (f60_E k c59 c60v1 c82 c82v1) f60_code [1, 1, 1, 1, 0, 1, 0] (endK (f60_E k c59 c60v1 c82 c82v1) Try.f60 [2000000, 2000001] f60_un retF)))) (f60_hw3_0 p45 n50 l51) = f60_w3b0N k c59 c60v1 c82 c82v1 (fun y0 => retF y0) (fun n50 l51 => NX_w3 (f60_hw3_0 p45 n50 l51)) p45 n50 l51 :=
  (f60_w3b0_mem k c59 c60v1 c82 c82v1 retF NX_w3 p45 n50 l51)

noncomputable def f60_w3B (k : Nat) (c59 : PV → (PV → R) → R) (c60v1 : PV → (List PV) → ((List PV) → R) → R) (c82 : (List Int) → PV → (List PV) → (Int → PV → (List PV) → R) → R) (c82v1 : (List Int) → (List PV) → (Int → PV → (List PV) → R) → R) (ret0 : (List PV) → R) (p45 : PV) (nx : Int × (List PV) → R) : Int × (List PV) → R := (fun s => f60_w3b0N k c59 c60v1 c82 c82v1 ret0 (fun n50 l51 => nx (n50, l51)) p45 s.1 s.2)
noncomputable def f60_w3N (k : Nat) (c59 : PV → (PV → R) → R) (c60v1 : PV → (List PV) → ((List PV) → R) → R) (c82 : (List Int) → PV → (List PV) → (Int → PV → (List PV) → R) → R) (c82v1 : (List Int) → (List PV) → (Int → PV → (List PV) → R) → R) (ret0 : (List PV) → R) (p45 : PV) (n50 : Int) (l51 : List PV) : R := loopR (f60_w3B k c59 c60v1 c82 c82v1 ret0 p45) k (n50, l51)
theorem f60_w3_eq (k : Nat) (c59 : PV → (PV → R) → R) (c60v1 : PV → (List PV) → ((List PV) → R) → R) (c82 : (List Int) → PV → (List PV) → (Int → PV → (List PV) → R) → R) (c82v1 : (List Int) → (List PV) → (Int → PV → (List PV) → R) → R) (retF : (List PV) → R) (p45 : PV) (n50 : Int) (l51 : List PV) : f60_w3A k c59 c60v1 c82 c82v1 retF p45 n50 l51 = f60_w3N k c59 c60v1 c82 c82v1 (fun y0 => retF y0) p45 n50 l51 :=
  Eq.mp (by kernel_rfl) (loop_sim (E := (f60_E k c59 c60v1 c82 c82v1)) (c := f60_cw3) (K := (kont (f60_E k c59 c60v1 c82 c82v1) f60_code [1, 1, 1, 1, 0, 1, 0] (endK (f60_E k c59 c60v1 c82 c82v1) Try.f60 [2000000, 2000001] f60_un retF))) (S := Int × (List PV)) (fun s => f60_hw3_0 p45 s.1 s.2) (f60_w3B k c59 c60v1 c82 c82v1 (fun y0 => retF y0) p45) (fun NX s => by
    exact Eq.mp (by kernel_rfl) (f60_w3b0_eq k c59 c60v1 c82 c82v1 retF NX p45 s.1 s.2)) k (n50, l51))

noncomputable def f60_cw4 : Code := subC f60_code [1, 1, 1, 1, 0, 1, 0, 0]
noncomputable def f60_hw4_0 (p63 : PV) (n68 : Int) (l69 : List PV) : St := ⟨[.ptr 2000000 [], .dead, .dead, .dead, .dead, .str [41], .dead, .dead, .dead, .dead, .dead, .dead, .dead, .dead, .dead, .dead, .dead, .dead, .dead, .dead, .dead, .dead, .dead, .dead, .dead, .dead, .dead, .dead, .dead, .dead, .dead, .dead, .dead, .dead, .dead, .dead, .dead, .dead, .dead, .dead, .dead, .dead, .dead, .dead, .dead, .dead, .dead, .dead, .dead, .val 28 p63, .int .i64 (List.length (PV.els p63) : Int), .int .i64 n68, .dead, .dead, .dead, .dead, .dead, .dead, .dead, .dead, .dead, .dead, .dead, .dead, .dead, .dead, .dead], [(2000000, .box 76 (.agg 76 [.ptr 2000000 [], .own 43 2000001])), (2000001, .row 5 l69)]⟩
noncomputable def f60_w4A (k : Nat) (c59 : PV → (PV → R) → R) (c60v1 : PV → (List PV) → ((List PV) → R) → R) (c82 : (List Int) → PV → (List PV) → (Int → PV → (List PV) → R) → R) (c82v1 : (List Int) → (List PV) → (Int → PV → (List PV) → R) → R) (retF : (List PV) → R) (p63 : PV) (n68 : Int) (l69 : List PV) : R := loopM (f60_E k c59 c60v1 c82 c82v1) f60_cw4 (kont (f60_E k c59 c60v1 c82 c82v1) f60_code [1, 1, 1, 1, 0, 1, 0] (endK (f60_E k c59 c60v1 c82 c82v1) Try.f60 [2000000, 2000001] f60_un retF)) k (f60_hw4_0 p63 n68 l69)
noncomputable def f60_w4b0 (c59 : PV → (PV → R) → R) (c60v1 : PV → (List PV) → ((List PV) → R) → R) (c82 : (List Int) → PV → (List PV) → (Int → PV → (List PV) → R) → R) (c82v1 : (List Int) → (List PV) → (Int → PV → (List PV) → R) → R) (ret0 : (List PV) → R) (next_w4_0 : Int → (List PV) → R) (p63 : PV) (n68 : Int) (l69 : List PV) : R :=
  bif (decide (n68 < (List.length (PV.els p63) : Int))) then
    bif (true && decide ((0 : Int) ≤ n68) && decide (n68 < (List.length (PV.els p63) : Int))) then
      bif (decide ((0 : Int) < n68)) then
        c82v1 [44] l69 fun n70 p71 l72 =>
        c60v1 (List.getD (PV.els p63) (n68).toNat PV.nil) l72 fun l73 =>
        next_w4_0 (IntKind.wrap .i64 (n68 + (1 : Int))) l73
      else c60v1 (List.getD (PV.els p63) (n68).toNat PV.nil) l69 fun l74 =>
      next_w4_0 (IntKind.wrap .i64 (n68 + (1 : Int))) l74
    else none
  else c82v1 [41] l69 fun n75 p76 l77 =>
  ret0 l77

theorem f60_w4b0_mem (k : Nat) (c59 : PV → (PV → R) → R) (c60v1 : PV → (List PV) → ((List PV) → R) → R) (c82 : (List Int) → PV → (List PV) → (Int → PV → (List PV) → R) → R) (c82v1 : (List Int) → (List PV) → (Int → PV → (List PV) → R) → R) (retF : (List PV) → R) (NX_w4 : St → R) (p63 : PV) (n68 : Int) (l69 : List PV) : exec (f60_E k c59 c60v1 c82 c82v1) f60_cw4 (purgeK (f60_E k c59 c60v1 c82 c82v1) f60_cw4 (loopK NX_w4 (kont (f60_E k c59 c60v1 c82 c82v1) f60_code [1, 1, 1, 1, 0, 1, 0] (endK (f60_E k c59 c60v1 c82 c82v1) Try.f60 [2000000, 2000001] f60_un retF)))) (f60_hw4_0 p63 n68 l69) = f60_w4b0 c59 c60v1 c82 c82v1 (fun y0 => retF y0) (fun n68 l69 => NX_w4 (f60_hw4_0 p63 n68 l69)) p63 n68 l69 := by kernel_rfl

noncomputable def f60_w4b0N (k : Nat) (c59 : PV → (PV → R) → R) (c60v1 : PV → (List PV) → ((List PV) → R) → R) (c82 : (List Int) → PV → (List PV) → (Int → PV → (List PV) → R) → R) (c82v1 : (List Int) → (List PV) → (Int → PV → (List PV) → R) → R) (ret0 : (List PV) → R) (next_w4_0 : Int → (List PV) → R) (p63 : PV) (n68 : Int) (l69 : List PV) : R :=
  f60_w4b0 c59 c60v1 c82 c82v1 ret0 next_w4_0 p63 n68 l69
theorem f60_w4b0_eq (k : Nat) (c59 : PV → (PV → R) → R) (c60v1 : PV → (List PV) → ((List PV) → R) → R) (c82 : (List Int) → PV → (List PV) → (Int → PV → (List PV) → R) → R) (c82v1 : (List Int) → (List PV) → (Int → PV → (List PV) → R) → R) (retF : (List PV) → R) (NX_w4 : St → R) (p63 : PV) (n68 : Int) (l69 : List PV) : exec (f60_E k c59 c60v1 c82 c82v1) f60_cw4 (purgeK (f60_E k c59 c60v1 c82 c82v1) f60_cw4 (loopK NX_w4 (kont (f60_E k c59 c60v1 c82 c82v1) f60_code [1, 1, 1, 1, 0, 1, 0] (endK (f60_E k c59 c60v1 c82 c82v1) Try.f60 [2000000, 2000001] f60_un retF)))) (f60_hw4_0 p63 n68 l69) = f60_w4b0N k c59 c60v1 c82 c82v1 (fun y0 => retF y0) (fun n68 l69 => NX_w4 (f60_hw4_0 p63 n68 l69)) p63 n68 l69 :=
  (f60_w4b0_mem k c59 c60v1 c82 c82v1 retF NX_w4 p63 n68 l69)

noncomputable def f60_w4B (k : Nat) (c59 : PV → (PV → R) → R) (c60v1 : PV → (List PV) → ((List PV) → R) → R) (c82 : (List Int) → PV → (List PV) → (Int → PV → (List PV) → R) → R) (c82v1 : (List Int) → (List PV) → (Int → PV → (List PV) → R) → R) (ret0 : (List PV) → R) (p63 : PV) (nx : Int × (List PV) → R) : Int × (List PV) → R := (fun s => f60_w4b0N k c59 c60v1 c82 c82v1 ret0 (fun n68 l69 => nx (n68, l69)) p63 s.1 s.2)
noncomputable def f60_w4N (k : Nat) (c59 : PV → (PV → R) → R) (c60v1 : PV → (List PV) → ((List PV) → R) → R) (c82 : (List Int) → PV → (List PV) → (Int → PV → (List PV) → R) → R) (c82v1 : (List Int) → (List PV) → (Int → PV → (List PV) → R) → R) (ret0 : (List PV) → R) (p63 : PV) (n68 : Int) (l69 : List PV) : R := loopR (f60_w4B k c59 c60v1 c82 c82v1 ret0 p63) k (n68, l69)
theorem f60_w4_eq (k : Nat) (c59 : PV → (PV → R) → R) (c60v1 : PV → (List PV) → ((List PV) → R) → R) (c82 : (List Int) → PV → (List PV) → (Int → PV → (List PV) → R) → R) (c82v1 : (List Int) → (List PV) → (Int → PV → (List PV) → R) → R) (retF : (List PV) → R) (p63 : PV) (n68 : Int) (l69 : List PV) : f60_w4A k c59 c60v1 c82 c82v1 retF p63 n68 l69 = f60_w4N k c59 c60v1 c82 c82v1 (fun y0 => retF y0) p63 n68 l69 :=
  Eq.mp (by kernel_rfl) (loop_sim (E := (f60_E k c59 c60v1 c82 c82v1)) (c := f60_cw4) (K := (kont (f60_E k c59 c60v1 c82 c82v1) f60_code [1, 1, 1, 1, 0, 1, 0] (endK (f60_E k c59 c60v1 c82 c82v1) Try.f60 [2000000, 2000001] f60_un retF))) (S := Int × (List PV)) (fun s => f60_hw4_0 p63 s.1 s.2) (f60_w4B k c59 c60v1 c82 c82v1 (fun y0 => retF y0) p63) (fun NX s => by
    exact Eq.mp (by kernel_rfl) (f60_w4b0_eq k c59 c60v1 c82 c82v1 retF NX p63 s.1 s.2)) k (n68, l69))

noncomputable def f60_cw5 : Code := subC f60_code [1, 1, 1, 1, 0, 1, 0, 0]
noncomputable def f60_hw5_0 (p81 : PV) (n86 : Int) (l87 : List PV) : St := ⟨[.ptr 2000000 [], .dead, .dead, .dead, .dead, .str [], .dead, .dead, .dead, .dead, .dead, .dead, .dead, .dead, .dead, .dead, .dead, .dead, .dead, .dead, .dead, .dead, .dead, .dead, .dead, .dead, .dead, .dead, .dead, .dead, .dead, .dead, .dead, .dead, .dead, .dead, .dead, .dead, .dead, .dead, .dead, .dead, .dead, .dead, .dead, .dead, .dead, .dead, .dead, .val 28 p81, .int .i64 (List.length (PV.els p81) : Int), .int .i64 n86, .dead, .dead, .dead, .dead, .dead, .dead, .dead, .dead, .dead, .dead, .dead, .dead, .dead, .dead, .dead], [(2000000, .box 76 (.agg 76 [.ptr 2000000 [], .own 43 2000001])), (2000001, .row 5 l87)]⟩
noncomputable def f60_w5A (k : Nat) (c59 : PV → (PV → R) → R) (c60v1 : PV → (List PV) → ((List PV) → R) → R) (c82 : (List Int) → PV → (List PV) → (Int → PV → (List PV) → R) → R) (c82v1 : (List Int) → (List PV) → (Int → PV → (List PV) → R) → R) (retF : (List PV) → R) (p81 : PV) (n86 : Int) (l87 : List PV) : R := loopM (f60_E k c59 c60v1 c82 c82v1) f60_cw5 (kont (f60_E k c59 c60v1 c82 c82v1) f60_code [1, 1, 1, 1, 0, 1, 0] (endK (f60_E k c59 c60v1 c82 c82v1) Try.f60 [2000000, 2000001] f60_un retF)) k (f60_hw5_0 p81 n86 l87)
noncomputable def f60_w5b0 (c59 : PV → (PV → R) → R) (c60v1 : PV → (List PV) → ((List PV) → R) → R) (c82 : (List Int) → PV → (List PV) → (Int → PV → (List PV) → R) → R) (c82v1 : (List Int) → (List PV) → (Int → PV → (List PV) → R) → R) (ret0 : (List PV) → R) (next_w5_0 : Int → (List PV) → R) (p81 : PV) (n86 : Int) (l87 : List PV) : R :=
  bif (decide (n86 < (List.length (PV.els p81) : Int))) then
    bif (true && decide ((0 : Int) ≤ n86) && decide (n86 < (List.length (PV.els p81) : Int))) then
      bif (decide ((0 : Int) < n86)) then
        c82v1 [44] l87 fun n88 p89 l90 =>
        c60v1 (List.getD (PV.els p81) (n86).toNat PV.nil) l90 fun l91 =>
        next_w5_0 (IntKind.wrap .i64 (n86 + (1 : Int))) l91
      else c60v1 (List.getD (PV.els p81) (n86).toNat PV.nil) l87 fun l92 =>
      next_w5_0 (IntKind.wrap .i64 (n86 + (1 : Int))) l92
    else none
  else c82v1 [] l87 fun n93 p94 l95 =>
  ret0 l95

theorem f60_w5b0_mem (k : Nat) (c59 : PV → (PV → R) → R) (c60v1 : PV → (List PV) → ((List PV) → R) → R) (c82 : (List Int) → PV → (List PV) → (Int → PV → (List PV) → R) → R) (c82v1 : (List Int) → (List PV) → (Int → PV → (List PV) → R) → R) (retF : (List PV) → R) (NX_w5 : St → R) (p81 : PV) (n86 : Int) (l87 : List PV) : exec (f60_E k c59 c60v1 c82 c82v1) f60_cw5 (purgeK (f60_E k c59 c60v1 c82 c82v1) f60_cw5 (loopK NX_w5 (kont (f60_E k c59 c60v1 c82 c82v1) f60_code [1, 1, 1, 1, 0, 1, 0] (endK (f60_E k c59 c60v1 c82 c82v1) Try.f60 [2000000, 2000001] f60_un retF)))) (f60_hw5_0 p81 n86 l87) = f60_w5b0 c59 c60v1 c82 c82v1 (fun y0 => retF y0) (fun n86 l87 => NX_w5 (f60_hw5_0 p81 n86 l87)) p81 n86 l87 := by kernel_rfl

noncomputable def f60_w5b0N (k : Nat) (c59 : PV → (PV → R) → R) (c60v1 : PV → (List PV) → ((List PV) → R) → R) (c82 : (List Int) → PV → (List PV) → (Int → PV → (List PV) → R) → R) (c82v1 : (List Int) → (List PV) → (Int → PV → (List PV) → R) → R) (ret0 : (List PV) → R) (next_w5_0 : Int → (List PV) → R) (p81 : PV) (n86 : Int) (l87 : List PV) : R :=
  f60_w5b0 c59 c60v1 c82 c82v1 ret0 next_w5_0 p81 n86 l87
theorem f60_w5b0_eq (k : Nat) (c59 : PV → (PV → R) → R) (c60v1 : PV → (List PV) → ((List PV) → R) → R) (c82 : (List Int) → PV → (List PV) → (Int → PV → (List PV) → R) → R) (c82v1 : (List Int) → (List PV) → (Int → PV → (List PV) → R) → R) (retF : (List PV) → R) (NX_w5 : St → R) (p81 : PV) (n86 : Int) (l87 : List PV) : exec (f60_E k c59 c60v1 c82 c82v1) f60_cw5 (purgeK (f60_E k c59 c60v1 c82 c82v1) f60_cw5 (loopK NX_w5 (kont (f60_E k c59 c60v1 c82 c82v1) f60_code [1, 1, 1, 1, 0, 1, 0] (endK (f60_E k c59 c60v1 c82 c82v1) Try.f60 [2000000, 2000001] f60_un retF)))) (f60_hw5_0 p81 n86 l87) = f60_w5b0N k c59 c60v1 c82 c82v1 (fun y0 => retF y0) (fun n86 l87 => NX_w5 (f60_hw5_0 p81 n86 l87)) p81 n86 l87 :=
  (f60_w5b0_mem k c59 c60v1 c82 c82v1 retF NX_w5 p81 n86 l87)

noncomputable def f60_w5B (k : Nat) (c59 : PV → (PV → R) → R) (c60v1 : PV → (List PV) → ((List PV) → R) → R) (c82 : (List Int) → PV → (List PV) → (Int → PV → (List PV) → R) → R) (c82v1 : (List Int) → (List PV) → (Int → PV → (List PV) → R) → R) (ret0 : (List PV) → R) (p81 : PV) (nx : Int × (List PV) → R) : Int × (List PV) → R := (fun s => f60_w5b0N k c59 c60v1 c82 c82v1 ret0 (fun n86 l87 => nx (n86, l87)) p81 s.1 s.2)
noncomputable def f60_w5N (k : Nat) (c59 : PV → (PV → R) → R) (c60v1 : PV → (List PV) → ((List PV) → R) → R) (c82 : (List Int) → PV → (List PV) → (Int → PV → (List PV) → R) → R) (c82v1 : (List Int) → (List PV) → (Int → PV → (List PV) → R) → R) (ret0 : (List PV) → R) (p81 : PV) (n86 : Int) (l87 : List PV) : R := loopR (f60_w5B k c59 c60v1 c82 c82v1 ret0 p81) k (n86, l87)
theorem f60_w5_eq (k : Nat) (c59 : PV → (PV → R) → R) (c60v1 : PV → (List PV) → ((List PV) → R) → R) (c82 : (List Int) → PV → (List PV) → (Int → PV → (List PV) → R) → R) (c82v1 : (List Int) → (List PV) → (Int → PV → (List PV) → R) → R) (retF : (List PV) → R) (p81 : PV) (n86 : Int) (l87 : List PV) : f60_w5A k c59 c60v1 c82 c82v1 retF p81 n86 l87 = f60_w5N k c59 c60v1 c82 c82v1 (fun y0 => retF y0) p81 n86 l87 :=
  Eq.mp (by kernel_rfl) (loop_sim (E := (f60_E k c59 c60v1 c82 c82v1)) (c := f60_cw5) (K := (kont (f60_E k c59 c60v1 c82 c82v1) f60_code [1, 1, 1, 1, 0, 1, 0] (endK (f60_E k c59 c60v1 c82 c82v1) Try.f60 [2000000, 2000001] f60_un retF))) (S := Int × (List PV)) (fun s => f60_hw5_0 p81 s.1 s.2) (f60_w5B k c59 c60v1 c82 c82v1 (fun y0 => retF y0) p81) (fun NX s => by
    exact Eq.mp (by kernel_rfl) (f60_w5b0_eq k c59 c60v1 c82 c82v1 retF NX p81 s.1 s.2)) k (n86, l87))

noncomputable def f60_cw6 : Code := subC f60_code [1, 1, 1, 1, 0, 1, 0, 0]
noncomputable def f60_hw6_0 (p99 : PV) (n104 : Int) (l105 : List PV) : St := ⟨[.ptr 2000000 [], .dead, .dead, .dead, .dead, .str [], .dead, .dead, .dead, .dead, .dead, .dead, .dead, .dead, .dead, .dead, .dead, .dead, .dead, .dead, .dead, .dead, .dead, .dead, .dead, .dead, .dead, .dead, .dead, .dead, .dead, .dead, .dead, .dead, .dead, .dead, .dead, .dead, .dead, .dead, .dead, .dead, .dead, .dead, .dead, .dead, .dead, .dead, .dead, .val 28 p99, .int .i64 (List.length (PV.els p99) : Int), .int .i64 n104, .dead, .dead, .dead, .dead, .dead, .dead, .dead, .dead, .dead, .dead, .dead, .dead, .dead, .dead, .dead], [(2000000, .box 76 (.agg 76 [.ptr 2000000 [], .own 43 2000001])), (2000001, .row 5 l105)]⟩
noncomputable def f60_w6A (k : Nat) (c59 : PV → (PV → R) → R) (c60v1 : PV → (List PV) → ((List PV) → R) → R) (c82 : (List Int) → PV → (List PV) → (Int → PV → (List PV) → R) → R) (c82v1 : (List Int) → (List PV) → (Int → PV → (List PV) → R) → R) (retF : (List PV) → R) (p99 : PV) (n104 : Int) (l105 : List PV) : R := loopM (f60_E k c59 c60v1 c82 c82v1) f60_cw6 (kont (f60_E k c59 c60v1 c82 c82v1) f60_code [1, 1, 1, 1, 0, 1, 0] (endK (f60_E k c59 c60v1 c82 c82v1) Try.f60 [2000000, 2000001] f60_un retF)) k (f60_hw6_0 p99 n104 l105)
noncomputable def f60_w6b0 (c59 : PV → (PV → R) → R) (c60v1 : PV → (List PV) → ((List PV) → R) → R) (c82 : (List Int) → PV → (List PV) → (Int → PV → (List PV) → R) → R) (c82v1 : (List Int) → (List PV) → (Int → PV → (List PV) → R) → R) (ret0 : (List PV) → R) (next_w6_0 : Int → (List PV) → R) (p99 : PV) (n104 : Int) (l105 : List PV) : R :=
  bif (decide (n104 < (List.length (PV.els p99) : Int))) then
    bif (true && decide ((0 : Int) ≤ n104) && decide (n104 < (List.length (PV.els p99) : Int))) then
      bif (decide ((0 : Int) < n104)) then
        c82v1 [44] l105 fun n106 p107 l108 =>
        c60v1 (List.getD (PV.els p99) (n104).toNat PV.nil) l108 fun l109 =>
        next_w6_0 (IntKind.wrap .i64 (n104 + (1 : Int))) l109
      else c60v1 (List.getD (PV.els p99) (n104).toNat PV.nil) l105 fun l110 =>
      next_w6_0 (IntKind.wrap .i64 (n104 + (1 : Int))) l110
    else none
  else c82v1 [] l105 fun n111 p112 l113 =>
  ret0 l113

theorem f60_w6b0_mem (k : Nat) (c59 : PV → (PV → R) → R) (c60v1 : PV → (List PV) → ((List PV) → R) → R) (c82 : (List Int) → PV → (List PV) → (Int → PV → (List PV) → R) → R) (c82v1 : (List Int) → (List PV) → (Int → PV → (List PV) → R) → R) (retF : (List PV) → R) (NX_w6 : St → R) (p99 : PV) (n104 : Int) (l105 : List PV) : exec (f60_E k c59 c60v1 c82 c82v1) f60_cw6 (purgeK (f60_E k c59 c60v1 c82 c82v1) f60_cw6 (loopK NX_w6 (kont (f60_E k c59 c60v1 c82 c82v1) f60_code [1, 1, 1, 1, 0, 1, 0] (endK (f60_E k c59 c60v1 c82 c82v1) Try.f60 [2000000, 2000001] f60_un retF)))) (f60_hw6_0 p99 n104 l105) = f60_w6b0 c59 c60v1 c82 c82v1 (fun y0 => retF y0) (fun n104 l105 => NX_w6 (f60_hw6_0 p99 n104 l105)) p99 n104 l105 := by kernel_rfl

noncomputable def f60_w6b0N (k : Nat) (c59 : PV → (PV → R) → R) (c60v1 : PV → (List PV) → ((List PV) → R) → R) (c82 : (List Int) → PV → (List PV) → (Int → PV → (List PV) → R) → R) (c82v1 : (List Int) → (List PV) → (Int → PV → (List PV) → R) → R) (ret0 : (List PV) → R) (next_w6_0 : Int → (List PV) → R) (p99 : PV) (n104 : Int) (l105 : List PV) : R :=
  f60_w6b0 c59 c60v1 c82 c82v1 ret0 next_w6_0 p99 n104 l105
theorem f60_w6b0_eq (k : Nat) (c59 : PV → (PV → R) → R) (c60v1 : PV → (List PV) → ((List PV) → R) → R) (c82 : (List Int) → PV → (List PV) → (Int → PV → (List PV) → R) → R) (c82v1 : (List Int) → (List PV) → (Int → PV → (List PV) → R) → R) (retF : (List PV) → R) (NX_w6 : St → R) (p99 : PV) (n104 : Int) (l105 : List PV) : exec (f60_E k c59 c60v1 c82 c82v1) f60_cw6 (purgeK (f60_E k c59 c60v1 c82 c82v1) f60_cw6 (loopK NX_w6 (kont (f60_E k c59 c60v1 c82 c82v1) f60_code [1, 1, 1, 1, 0, 1, 0] (endK (f60_E k c59 c60v1 c82 c82v1) Try.f60 [2000000, 2000001] f60_un retF)))) (f60_hw6_0 p99 n104 l105) = f60_w6b0N k c59 c60v1 c82 c82v1 (fun y0 => retF y0) (fun n104 l105 => NX_w6 (f60_hw6_0 p99 n104 l105)) p99 n104 l105 :=
  (f60_w6b0_mem k c59 c60v1 c82 c82v1 retF NX_w6 p99 n104 l105)

noncomputable def f60_w6B (k : Nat) (c59 : PV → (PV → R) → R) (c60v1 : PV → (List PV) → ((List PV) → R) → R) (c82 : (List Int) → PV → (List PV) → (Int → PV → (List PV) → R) → R) (c82v1 : (List Int) → (List PV) → (Int → PV → (List PV) → R) → R) (ret0 : (List PV) → R) (p99 : PV) (nx : Int × (List PV) → R) : Int × (List PV) → R := (fun s => f60_w6b0N k c59 c60v1 c82 c82v1 ret0 (fun n104 l105 => nx (n104, l105)) p99 s.1 s.2)
noncomputable def f60_w6N (k : Nat) (c59 : PV → (PV → R) → R) (c60v1 : PV → (List PV) → ((List PV) → R) → R) (c82 : (List Int) → PV → (List PV) → (Int → PV → (List PV) → R) → R) (c82v1 : (List Int) → (List PV) → (Int → PV → (List PV) → R) → R) (ret0 : (List PV) → R) (p99 : PV) (n104 : Int) (l105 : List PV) : R := loopR (f60_w6B k c59 c60v1 c82 c82v1 ret0 p99) k (n104, l105)
theorem f60_w6_eq (k : Nat) (c59 : PV → (PV → R) → R) (c60v1 : PV → (List PV) → ((List PV) → R) → R) (c82 : (List Int) → PV → (List PV) → (Int → PV → (List PV) → R) → R) (c82v1 : (List Int) → (List PV) → (Int → PV → (List PV) → R) → R) (retF : (List PV) → R) (p99 : PV) (n104 : Int) (l105 : List PV) : f60_w6A k c59 c60v1 c82 c82v1 retF p99 n104 l105 = f60_w6N k c59 c60v1 c82 c82v1 (fun y0 => retF y0) p99 n104 l105 :=
  Eq.mp (by kernel_rfl) (loop_sim (E := (f60_E k c59 c60v1 c82 c82v1)) (c := f60_cw6) (K := (kont (f60_E k c59 c60v1 c82 c82v1) f60_code [1, 1, 1, 1, 0, 1, 0] (endK (f60_E k c59 c60v1 c82 c82v1) Try.f60 [2000000, 2000001] f60_un retF))) (S := Int × (List PV)) (fun s => f60_hw6_0 p99 s.1 s.2) (f60_w6B k c59 c60v1 c82 c82v1 (fun y0 => retF y0) p99) (fun NX s => by
    exact Eq.mp (by kernel_rfl) (f60_w6b0_eq k c59 c60v1 c82 c82v1 retF NX p99 s.1 s.2)) k (n104, l105))

noncomputable def f60_cw7 : Code := subC f60_code [1, 1, 1, 1, 0, 1, 0, 0]
noncomputable def f60_hw7_0 (p117 : PV) (n122 : Int) (l123 : List PV) : St := ⟨[.ptr 2000000 [], .dead, .dead, .dead, .dead, .str [93], .dead, .dead, .dead, .dead, .dead, .dead, .dead, .dead, .dead, .dead, .dead, .dead, .dead, .dead, .dead, .dead, .dead, .dead, .dead, .dead, .dead, .dead, .dead, .dead, .dead, .dead, .dead, .dead, .dead, .dead, .dead, .dead, .dead, .dead, .dead, .dead, .dead, .dead, .dead, .dead, .dead, .dead, .dead, .val 28 p117, .int .i64 (List.length (PV.els p117) : Int), .int .i64 n122, .dead, .dead, .dead, .dead, .dead, .dead, .dead, .dead, .dead, .dead, .dead, .dead, .dead, .dead, .dead], [(2000000, .box 76 (.agg 76 [.ptr 2000000 [], .own 43 2000001])), (2000001, .row 5 l123)]⟩
noncomputable def f60_w7A (k : Nat) (c59 : PV → (PV → R) → R) (c60v1 : PV → (List PV) → ((List PV) → R) → R) (c82 : (List Int) → PV → (List PV) → (Int → PV → (List PV) → R) → R) (c82v1 : (List Int) → (List PV) → (Int → PV → (List PV) → R) → R) (retF : (List PV) → R) (p117 : PV) (n122 : Int) (l123 : List PV) : R := loopM (f60_E k c59 c60v1 c82 c82v1) f60_cw7 (kont (f60_E k c59 c60v1 c82 c82v1) f60_code [1, 1, 1, 1, 0, 1, 0] (endK (f60_E k c59 c60v1 c82 c82v1) Try.f60 [2000000, 2000001] f60_un retF)) k (f60_hw7_0 p117 n122 l123)
noncomputable def f60_w7b0 (c59 : PV → (PV → R) → R) (c60v1 : PV → (List PV) → ((List PV) → R) → R) (c82 : (List Int) → PV → (List PV) → (Int → PV → (List PV) → R) → R) (c82v1 : (List Int) → (List PV) → (Int → PV → (List PV) → R) → R) (ret0 : (List PV) → R) (next_w7_0 : Int → (List PV) → R) (p117 : PV) (n122 : Int) (l123 : List PV) : R :=
  bif (decide (n122 < (List.length (PV.els p117) : Int))) then
    bif (true && decide ((0 : Int) ≤ n122) && decide (n122 < (List.length (PV.els p117) : Int))) then
      bif (decide ((0 : Int) < n122)) then
        c82v1 [44] l123 fun n124 p125 l126 =>
        c60v1 (List.getD (PV.els p117) (n122).toNat PV.nil) l126 fun l127 =>
        next_w7_0 (IntKind.wrap .i64 (n122 + (1 : Int))) l127
      else c60v1 (List.getD (PV.els p117) (n122).toNat PV.nil) l123 fun l128 =>
      next_w7_0 (IntKind.wrap .i64 (n122 + (1 : Int))) l128
    else none
  else c82v1 [93] l123 fun n129 p130 l131 =>
  ret0 l131

theorem f60_w7b0_mem (k : Nat) (c59 : PV → (PV → R) → R) (c60v1 : PV → (List PV) → ((List PV) → R) → R) (c82 : (List Int) → PV → (List PV) → (Int → PV → (List PV) → R) → R) (c82v1 : (List Int) → (List PV) → (Int → PV → (List PV) → R) → R) (retF : (List PV) → R) (NX_w7 : St → R) (p117 : PV) (n122 : Int) (l123 : List PV) : exec (f60_E k c59 c60v1 c82 c82v1) f60_cw7 (purgeK (f60_E k c59 c60v1 c82 c82v1) f60_cw7 (loopK NX_w7 (kont (f60_E k c59 c60v1 c82 c82v1) f60_code [1, 1, 1, 1, 0, 1, 0] (endK (f60_E k c59 c60v1 c82 c82v1) Try.f60 [2000000, 2000001] f60_un retF)))) (f60_hw7_0 p117 n122 l123) = f60_w7b0 c59 c60v1 c82 c82v1 (fun y0 => retF y0) (fun n122 l123 => NX_w7 (f60_hw7_0 p117 n122 l123)) p117 n122 l123 := by kernel_rfl

noncomputable def f60_w7b0N (k : Nat) (c59 : PV → (PV → R) → R) (c60v1 : PV → (List PV) → ((List PV) → R) → R) (c82 : (List Int) → PV → (List PV) → (Int → PV → (List PV) → R) → R) (c82v1 : (List Int) → (List PV) → (Int → PV → (List PV) → R) → R) (ret0 : (List PV) → R) (next_w7_0 : Int → (List PV) → R) (p117 : PV) (n122 : Int) (l123 : List PV) : R :=
  f60_w7b0 c59 c60v1 c82 c82v1 ret0 next_w7_0 p117 n122 l123
theorem f60_w7b0_eq (k : Nat) (c59 : PV → (PV → R) → R) (c60v1 : PV → (List PV) → ((List PV) → R) → R) (c82 : (List Int) → PV → (List PV) → (Int → PV → (List PV) → R) → R) (c82v1 : (List Int) → (List PV) → (Int → PV → (List PV) → R) → R) (retF : (List PV) → R) (NX_w7 : St → R) (p117 : PV) (n122 : Int) (l123 : List PV) : exec (f60_E k c59 c60v1 c82 c82v1) f60_cw7 (purgeK (f60_E k c59 c60v1 c82 c82v1) f60_cw7 (loopK NX_w7 (kont (f60_E k c59 c60v1 c82 c82v1) f60_code [1, 1, 1, 1, 0, 1, 0] (endK (f60_E k c59 c60v1 c82 c82v1) Try.f60 [2000000, 2000001] f60_un retF)))) (f60_hw7_0 p117 n122 l123) = f60_w7b0N k c59 c60v1 c82 c82v1 (fun y0 => retF y0) (fun n122 l123 => NX_w7 (f60_hw7_0 p117 n122 l123)) p117 n122 l123 :=
  (f60_w7b0_mem k c59 c60v1 c82 c82v1 retF NX_w7 p117 n122 l123)

noncomputable def f60_w7B (k : Nat) (c59 : PV → (PV → R) → R) (c60v1 : PV → (List PV) → ((List PV) → R) → R) (c82 : (List Int) → PV → (List PV) → (Int → PV → (List PV) → R) → R) (c82v1 : (List Int) → (List PV) → (Int → PV → (List PV) → R) → R) (ret0 : (List PV) → R) (p117 : PV) (nx : Int × (List PV) → R) : Int × (List PV) → R := (fun s => f60_w7b0N k c59 c60v1 c82 c82v1 ret0 (fun n122 l123 => nx (n122, l123)) p117 s.1 s.2)
noncomputable def f60_w7N (k : Nat) (c59 : PV → (PV → R) → R) (c60v1 : PV → (List PV) → ((List PV) → R) → R) (c82 : (List Int) → PV → (List PV) → (Int → PV → (List PV) → R) → R) (c82v1 : (List Int) → (List PV) → (Int → PV → (List PV) → R) → R) (ret0 : (List PV) → R) (p117 : PV) (n122 : Int) (l123 : List PV) : R := loopR (f60_w7B k c59 c60v1 c82 c82v1 ret0 p117) k (n122, l123)
theorem f60_w7_eq (k : Nat) (c59 : PV → (PV → R) → R) (c60v1 : PV → (List PV) → ((List PV) → R) → R) (c82 : (List Int) → PV → (List PV) → (Int → PV → (List PV) → R) → R) (c82v1 : (List Int) → (List PV) → (Int → PV → (List PV) → R) → R) (retF : (List PV) → R) (p117 : PV) (n122 : Int) (l123 : List PV) : f60_w7A k c59 c60v1 c82 c82v1 retF p117 n122 l123 = f60_w7N k c59 c60v1 c82 c82v1 (fun y0 => retF y0) p117 n122 l123 :=
  Eq.mp (by kernel_rfl) (loop_sim (E := (f60_E k c59 c60v1 c82 c82v1)) (c := f60_cw7) (K := (kont (f60_E k c59 c60v1 c82 c82v1) f60_code [1, 1, 1, 1, 0, 1, 0] (endK (f60_E k c59 c60v1 c82 c82v1) Try.f60 [2000000, 2000001] f60_un retF))) (S := Int × (List PV)) (fun s => f60_hw7_0 p117 s.1 s.2) (f60_w7B k c59 c60v1 c82 c82v1 (fun y0 => retF y0) p117) (fun NX s => by
    exact Eq.mp (by kernel_rfl) (f60_w7b0_eq k c59 c60v1 c82 c82v1 retF NX p117 s.1 s.2)) k (n122, l123))

noncomputable def f60_cw8 : Code := subC f60_code [1, 1, 1, 1, 0, 1, 0, 0]
noncomputable def f60_hw8_0 (p135 : PV) (n140 : Int) (l141 : List PV) : St := ⟨[.ptr 2000000 [], .dead, .dead, .dead, .dead, .str [62], .dead, .dead, .dead, .dead, .dead, .dead, .dead, .dead, .dead, .dead, .dead, .dead, .dead, .dead, .dead, .dead, .dead, .dead, .dead, .dead, .dead, .dead, .dead, .dead, .dead, .dead, .dead, .dead, .dead, .dead, .dead, .dead, .dead, .dead, .dead, .dead, .dead, .dead, .dead, .dead, .dead, .dead, .dead, .val 28 p135, .int .i64 (List.length (PV.els p135) : Int), .int .i64 n140, .dead, .dead, .dead, .dead, .dead, .dead, .dead, .dead, .dead, .dead, .dead, .dead, .dead, .dead, .dead], [(2000000, .box 76 (.agg 76 [.ptr 2000000 [], .own 43 2000001])), (2000001, .row 5 l141)]⟩
noncomputable def f60_w8A (k : Nat) (c59 : PV → (PV → R) → R) (c60v1 : PV → (List PV) → ((List PV) → R) → R) (c82 : (List Int) → PV → (List PV) → (Int → PV → (List PV) → R) → R) (c82v1 : (List Int) → (List PV) → (Int → PV → (List PV) → R) → R) (retF : (List PV) → R) (p135 : PV) (n140 : Int) (l141 : List PV) : R := loopM (f60_E k c59 c60v1 c82 c82v1) f60_cw8 (kont (f60_E k c59 c60v1 c82 c82v1) f60_code [1, 1, 1, 1, 0, 1, 0] (endK (f60_E k c59 c60v1 c82 c82v1) Try.f60 [2000000, 2000001] f60_un retF)) k (f60_hw8_0 p135 n140 l141)
noncomputable def f60_w8b0 (c59 : PV → (PV → R) → R) (c60v1 : PV → (List PV) → ((List PV) → R) → R) (c82 : (List Int) → PV → (List PV) → (Int → PV → (List PV) → R) → R) (c82v1 : (List Int) → (List PV) → (Int → PV → (List PV) → R) → R) (ret0 : (List PV) → R) (next_w8_0 : Int → (List PV) → R) (p135 : PV) (n140 : Int) (l141 : List PV) : R :=
  bif (decide (n140 < (List.length (PV.els p135) : Int))) then
    bif (true && decide ((0 : Int) ≤ n140) && decide (n140 < (List.length (PV.els p135) : Int))) then
      bif (decide ((0 : Int) < n140)) then
        c82v1 [44] l141 fun n142 p143 l144 =>
        c60v1 (List.getD (PV.els p135) (n140).toNat PV.nil) l144 fun l145 =>
        next_w8_0 (IntKind.wrap .i64 (n140 + (1 : Int))) l145
      else c60v1 (List.getD (PV.els p135) (n140).toNat PV.nil) l141 fun l146 =>
      next_w8_0 (IntKind.wrap .i64 (n140 + (1 : Int))) l146
    else none
  else c82v1 [62] l141 fun n147 p148 l149 =>
  ret0 l149

theorem f60_w8b0_mem (k : Nat) (c59 : PV → (PV → R) → R) (c60v1 : PV → (List PV) → ((List PV) → R) → R) (c82 : (List Int) → PV → (List PV) → (Int → PV → (List PV) → R) → R) (c82v1 : (List Int) → (List PV) → (Int → PV → (List PV) → R) → R) (retF : (List PV) → R) (NX_w8 : St → R) (p135 : PV) (n140 : Int) (l141 : List PV) : exec (f60_E k c59 c60v1 c82 c82v1) f60_cw8 (purgeK (f60_E k c59 c60v1 c82 c82v1) f60_cw8 (loopK NX_w8 (kont (f60_E k c59 c60v1 c82 c82v1) f60_code [1, 1, 1, 1, 0, 1, 0] (endK (f60_E k c59 c60v1 c82 c82v1) Try.f60 [2000000, 2000001] f60_un retF)))) (f60_hw8_0 p135 n140 l141) = f60_w8b0 c59 c60v1 c82 c82v1 (fun y0 => retF y0) (fun n140 l141 => NX_w8 (f60_hw8_0 p135 n140 l141)) p135 n140 l141 := by kernel_rfl

noncomputable def f60_w8b0N (k : Nat) (c59 : PV → (PV → R) → R) (c60v1 : PV → (List PV) → ((List PV) → R) → R) (c82 : (List Int) → PV → (List PV) → (Int → PV → (List PV) → R) → R) (c82v1 : (List Int) → (List PV) → (Int → PV → (List PV) → R) → R) (ret0 : (List PV) → R) (next_w8_0 : Int → (List PV) → R) (p135 : PV) (n140 : Int) (l141 : List PV) : R :=
  f60_w8b0 c59 c60v1 c82 c82v1 ret0 next_w8_0 p135 n140 l141
theorem f60_w8b0_eq (k : Nat) (c59 : PV → (PV → R) → R) (c60v1 : PV → (List PV) → ((List PV) → R) → R) (c82 : (List Int) → PV → (List PV) → (Int → PV → (List PV) → R) → R) (c82v1 : (List Int) → (List PV) → (Int → PV → (List PV) → R) → R) (retF : (List PV) → R) (NX_w8 : St → R) (p135 : PV) (n140 : Int) (l141 : List PV) : exec (f60_E k c59 c60v1 c82 c82v1) f60_cw8 (purgeK (f60_E k c59 c60v1 c82 c82v1) f60_cw8 (loopK NX_w8 (kont (f60_E k c59 c60v1 c82 c82v1) f60_code [1, 1, 1, 1, 0, 1, 0] (endK (f60_E k c59 c60v1 c82 c82v1) Try.f60 [2000000, 2000001] f60_un retF)))) (f60_hw8_0 p135 n140 l141) = f60_w8b0N k c59 c60v1 c82 c82v1 (fun y0 => retF y0) (fun n140 l141 => NX_w8 (f60_hw8_0 p135 n140 l141)) p135 n140 l141 :=
  (f60_w8b0_mem k c59 c60v1 c82 c82v1 retF NX_w8 p135 n140 l141)

noncomputable def f60_w8B (k : Nat) (c59 : PV → (PV → R) → R) (c60v1 : PV → (List PV) → ((List PV) → R) → R) (c82 : (List Int) → PV → (List PV) → (Int → PV → (List PV) → R) → R) (c82v1 : (List Int) → (List PV) → (Int → PV → (List PV) → R) → R) (ret0 : (List PV) → R) (p135 : PV) (nx : Int × (List PV) → R) : Int × (List PV) → R := (fun s => f60_w8b0N k c59 c60v1 c82 c82v1 ret0 (fun n140 l141 => nx (n140, l141)) p135 s.1 s.2)
noncomputable def f60_w8N (k : Nat) (c59 : PV → (PV → R) → R) (c60v1 : PV → (List PV) → ((List PV) → R) → R) (c82 : (List Int) → PV → (List PV) → (Int → PV → (List PV) → R) → R) (c82v1 : (List Int) → (List PV) → (Int → PV → (List PV) → R) → R) (ret0 : (List PV) → R) (p135 : PV) (n140 : Int) (l141 : List PV) : R := loopR (f60_w8B k c59 c60v1 c82 c82v1 ret0 p135) k (n140, l141)
theorem f60_w8_eq (k : Nat) (c59 : PV → (PV → R) → R) (c60v1 : PV → (List PV) → ((List PV) → R) → R) (c82 : (List Int) → PV → (List PV) → (Int → PV → (List PV) → R) → R) (c82v1 : (List Int) → (List PV) → (Int → PV → (List PV) → R) → R) (retF : (List PV) → R) (p135 : PV) (n140 : Int) (l141 : List PV) : f60_w8A k c59 c60v1 c82 c82v1 retF p135 n140 l141 = f60_w8N k c59 c60v1 c82 c82v1 (fun y0 => retF y0) p135 n140 l141 :=
  Eq.mp (by kernel_rfl) (loop_sim (E := (f60_E k c59 c60v1 c82 c82v1)) (c := f60_cw8) (K := (kont (f60_E k c59 c60v1 c82 c82v1) f60_code [1, 1, 1, 1, 0, 1, 0] (endK (f60_E k c59 c60v1 c82 c82v1) Try.f60 [2000000, 2000001] f60_un retF))) (S := Int × (List PV)) (fun s => f60_hw8_0 p135 s.1 s.2) (f60_w8B k c59 c60v1 c82 c82v1 (fun y0 => retF y0) p135) (fun NX s => by
    exact Eq.mp (by kernel_rfl) (f60_w8b0_eq k c59 c60v1 c82 c82v1 retF NX p135 s.1 s.2)) k (n140, l141))

noncomputable def f60_cw9 : Code := subC f60_code [1, 1, 1, 1, 0, 1, 0, 0]
noncomputable def f60_hw9_0 (p153 : PV) (n158 : Int) (l159 : List PV) : St := ⟨[.ptr 2000000 [], .dead, .dead, .dead, .dead, .str [], .dead, .dead, .dead, .dead, .dead, .dead, .dead, .dead, .dead, .dead, .dead, .dead, .dead, .dead, .dead, .dead, .dead, .dead, .dead, .dead, .dead, .dead, .dead, .dead, .dead, .dead, .dead, .dead, .dead, .dead, .dead, .dead, .dead, .dead, .dead, .dead, .dead, .dead, .dead, .dead, .dead, .dead, .dead, .val 28 p153, .int .i64 (List.length (PV.els p153) : Int), .int .i64 n158, .dead, .dead, .dead, .dead, .dead, .dead, .dead, .dead, .dead, .dead, .dead, .dead, .dead, .dead, .dead], [(2000000, .box 76 (.agg 76 [.ptr 2000000 [], .own 43 2000001])), (2000001, .row 5 l159)]⟩
noncomputable def f60_w9A (k : Nat) (c59 : PV → (PV → R) → R) (c60v1 : PV → (List PV) → ((List PV) → R) → R) (c82 : (List Int) → PV → (List PV) → (Int → PV → (List PV) → R) → R) (c82v1 : (List Int) → (List PV) → (Int → PV → (List PV) → R) → R) (retF : (List PV) → R) (p153 : PV) (n158 : Int) (l159 : List PV) : R := loopM (f60_E k c59 c60v1 c82 c82v1) f60_cw9 (kont (f60_E k c59 c60v1 c82 c82v1) f60_code [1, 1, 1, 1, 0, 1, 0] (endK (f60_E k c59 c60v1 c82 c82v1) Try.f60 [2000000, 2000001] f60_un retF)) k (f60_hw9_0 p153 n158 l159)
noncomputable def f60_w9b0 (c59 : PV → (PV → R) → R) (c60v1 : PV → (List PV) → ((List PV) → R) → R) (c82 : (List Int) → PV → (List PV) → (Int → PV → (List PV) → R) → R) (c82v1 : (List Int) → (List PV) → (Int → PV → (List PV) → R) → R) (ret0 : (List PV) → R) (next_w9_0 : Int → (List PV) → R) (p153 : PV) (n158 : Int) (l159 : List PV) : R :=
  bif (decide (n158 < (List.length (PV.els p153) : Int))) then
    bif (true && decide ((0 : Int) ≤ n158) && decide (n158 < (List.length (PV.els p153) : Int))) then
      bif (decide ((0 : Int) < n158)) then
        c82v1 [44] l159 fun n160 p161 l162 =>
        c60v1 (List.getD (PV.els p153) (n158).toNat PV.nil) l162 fun l163 =>
        next_w9_0 (IntKind.wrap .i64 (n158 + (1 : Int))) l163
      else c60v1 (List.getD (PV.els p153) (n158).toNat PV.nil) l159 fun l164 =>
      next_w9_0 (IntKind.wrap .i64 (n158 + (1 : Int))) l164
    else none
  else c82v1 [] l159 fun n165 p166 l167 =>
  ret0 l167

theorem f60_w9b0_mem (k : Nat) (c59 : PV → (PV → R) → R) (c60v1 : PV → (List PV) → ((List PV) → R) → R) (c82 : (List Int) → PV → (List PV) → (Int → PV → (List PV) → R) → R) (c82v1 : (List Int) → (List PV) → (Int → PV → (List PV) → R) → R) (retF : (List PV) → R) (NX_w9 : St → R) (p153 : PV) (n158 : Int) (l159 : List PV) : exec (f60_E k c59 c60v1 c82 c82v1) f60_cw9 (purgeK (f60_E k c59 c60v1 c82 c82v1) f60_cw9 (loopK NX_w9 (kont (f60_E k c59 c60v1 c82 c82v1) f60_code [1, 1, 1, 1, 0, 1, 0] (endK (f60_E k c59 c60v1 c82 c82v1) Try.f60 [2000000, 2000001] f60_un retF)))) (f60_hw9_0 p153 n158 l159) = f60_w9b0 c59 c60v1 c82 c82v1 (fun y0 => retF y0) (fun n158 l159 => NX_w9 (f60_hw9_0 p153 n158 l159)) p153 n158 l159 := by kernel_rfl

noncomputable def f60_w9b0N (k : Nat) (c59 : PV → (PV → R) → R) (c60v1 : PV → (List PV) → ((List PV) → R) → R) (c82 : (List Int) → PV → (List PV) → (Int → PV → (List PV) → R) → R) (c82v1 : (List Int) → (List PV) → (Int → PV → (List PV) → R) → R) (ret0 : (List PV) → R) (next_w9_0 : Int → (List PV) → R) (p153 : PV) (n158 : Int) (l159 : List PV) : R :=
  f60_w9b0 c59 c60v1 c82 c82v1 ret0 next_w9_0 p153 n158 l159
theorem f60_w9b0_eq (k : Nat) (c59 : PV → (PV → R) → R) (c60v1 : PV → (List PV) → ((List PV) → R) → R) (c82 : (List Int) → PV → (List PV) → (Int → PV → (List PV) → R) → R) (c82v1 : (List Int) → (List PV) → (Int → PV → (List PV) → R) → R) (retF : (List PV) → R) (NX_w9 : St → R) (p153 : PV) (n158 : Int) (l159 : List PV) : exec (f60_E k c59 c60v1 c82 c82v1) f60_cw9 (purgeK (f60_E k c59 c60v1 c82 c82v1) f60_cw9 (loopK NX_w9 (kont (f60_E k c59 c60v1 c82 c82v1) f60_code [1, 1, 1, 1, 0, 1, 0] (endK (f60_E k c59 c60v1 c82 c82v1) Try.f60 [2000000, 2000001] f60_un retF)))) (f60_hw9_0 p153 n158 l159) = f60_w9b0N k c59 c60v1 c82 c82v1 (fun y0 => retF y0) (fun n158 l159 => NX_w9 (f60_hw9_0 p153 n158 l159)) p153 n158 l159 :=
  (f60_w9b0_mem k c59 c60v1 c82 c82v1 retF NX_w9 p153 n158 l159)

noncomputable def f60_w9B (k : Nat) (c59 : PV → (PV → R) → R) (c60v1 : PV → (List PV) → ((List PV) → R) → R) (c82 : (List Int) → PV → (List PV) → (Int → PV → (List PV) → R) → R) (c82v1 : (List Int) → (List PV) → (Int → PV → (List PV) → R) → R) (ret0 : (List PV) → R) (p153 : PV) (nx : Int × (List PV) → R) : Int × (List PV) → R := (fun s => f60_w9b0N k c59 c60v1 c82 c82v1 ret0 (fun n158 l159 => nx (n158, l159)) p153 s.1 s.2)
noncomputable def f60_w9N (k : Nat) (c59 : PV → (PV → R) → R) (c60v1 : PV → (List PV) → ((List PV) → R) → R) (c82 : (List Int) → PV → (List PV) → (Int → PV → (List PV) → R) → R) (c82v1 : (List Int) → (List PV) → (Int → PV → (List PV) → R) → R) (ret0 : (List PV) → R) (p153 : PV) (n158 : Int) (l159 : List PV) : R := loopR (f60_w9B k c59 c60v1 c82 c82v1 ret0 p153) k (n158, l159)
theorem f60_w9_eq (k : Nat) (c59 : PV → (PV → R) → R) (c60v1 : PV → (List PV) → ((List PV) → R) → R) (c82 : (List Int) → PV → (List PV) → (Int → PV → (List PV) → R) → R) (c82v1 : (List Int) → (List PV) → (Int → PV → (List PV) → R) → R) (retF : (List PV) → R) (p153 : PV) (n158 : Int) (l159 : List PV) : f60_w9A k c59 c60v1 c82 c82v1 retF p153 n158 l159 = f60_w9N k c59 c60v1 c82 c82v1 (fun y0 => retF y0) p153 n158 l159 :=
  Eq.mp (by kernel_rfl) (loop_sim (E := (f60_E k c59 c60v1 c82 c82v1)) (c := f60_cw9) (K := (kont (f60_E k c59 c60v1 c82 c82v1) f60_code [1, 1, 1, 1, 0, 1, 0] (endK (f60_E k c59 c60v1 c82 c82v1) Try.f60 [2000000, 2000001] f60_un retF))) (S := Int × (List PV)) (fun s => f60_hw9_0 p153 s.1 s.2) (f60_w9B k c59 c60v1 c82 c82v1 (fun y0 => retF y0) p153) (fun NX s => by
    exact Eq.mp (by kernel_rfl) (f60_w9b0_eq k c59 c60v1 c82 c82v1 retF NX p153 s.1 s.2)) k (n158, l159))

noncomputable def f60_e (c59 : PV → (PV → R) → R) (c60v1 : PV → (List PV) → ((List PV) → R) → R) (c82 : (List Int) → PV → (List PV) → (Int → PV → (List PV) → R) → R) (c82v1 : (List Int) → (List PV) → (Int → PV → (List PV) → R) → R) (ret0 : (List PV) → R) (w1 : PV → Int → (List PV) → R) (w2 : PV → Int → (List PV) → R) (w3 : PV → Int → (List PV) → R) (w4 : PV → Int → (List PV) → R) (w5 : PV → Int → (List PV) → R) (w6 : PV → Int → (List PV) → R) (w7 : PV → Int → (List PV) → R) (w8 : PV → Int → (List PV) → R) (w9 : PV → Int → (List PV) → R) (p1 : PV) (p2 : PV) (l3 : List PV) : R :=
  bif (decide ((PV.num (PV.fld p1 0)) = (1 : Int))) then
    c82 [69] p2 l3 fun n4 p5 l6 =>
    c59 p1 fun p7 =>
    w1 p7 0 l6
  else bif (decide ((PV.num (PV.fld p1 0)) = (2 : Int))) then
    bif (decide ((0 : Int) ≤ (Int.fdiv (PV.num (PV.fld p1 1)) (2 ^ (min ((4 : Int)).toNat 8)))) && decide ((Int.fdiv (PV.num (PV.fld p1 1)) (2 ^ (min ((4 : Int)).toNat 8))) ≤ (IntKind.wrap .u8 ((Int.fdiv (PV.num (PV.fld p1 1)) (2 ^ (min ((4 : Int)).toNat 8))) + (1 : Int)))) && decide ((IntKind.wrap .u8 ((Int.fdiv (PV.num (PV.fld p1 1)) (2 ^ (min ((4 : Int)).toNat 8))) + (1 : Int))) ≤ (List.length [48, 49, 50, 51, 52, 53, 54, 55, 56, 57, 97, 98, 99, 100, 101, 102] : Int))) then
      let s22 : List Int := (List.drop ((Int.fdiv (PV.num (PV.fld p1 1)) (2 ^ (min ((4 : Int)).toNat 8)))).toNat (List.take ((IntKind.wrap .u8 ((Int.fdiv (PV.num (PV.fld p1 1)) (2 ^ (min ((4 : Int)).toNat 8))) + (1 : Int)))).toNat [48, 49, 50, 51, 52, 53, 54, 55, 56, 57, 97, 98, 99, 100, 101, 102]))
      bif (decide ((0 : Int) ≤ (intBit .and .u8 (PV.num (PV.fld p1 1)) 15)) && decide ((intBit .and .u8 (PV.num (PV.fld p1 1)) 15) ≤ (IntKind.wrap .u8 ((intBit .and .u8 (PV.num (PV.fld p1 1)) 15) + (1 : Int)))) && decide ((IntKind.wrap .u8 ((intBit .and .u8 (PV.num (PV.fld p1 1)) 15) + (1 : Int))) ≤ (List.length [48, 49, 50, 51, 52, 53, 54, 55, 56, 57, 97, 98, 99, 100, 101, 102] : Int))) then
        let s23 : List Int := (List.drop ((intBit .and .u8 (PV.num (PV.fld p1 1)) 15)).toNat (List.take ((IntKind.wrap .u8 ((intBit .and .u8 (PV.num (PV.fld p1 1)) 15) + (1 : Int)))).toNat [48, 49, 50, 51, 52, 53, 54, 55, 56, 57, 97, 98, 99, 100, 101, 102]))
        bif (decide (List.length s22 + List.length s23 ≤ 4611686018427387904)) then
          c82 (s22 ++ s23) p2 l3 fun n24 p25 l26 =>
          c59 p1 fun p27 =>
          w2 p27 0 l26
        else none
      else none
    else none
  else bif (decide ((PV.num (PV.fld p1 0)) = (3 : Int))) then
    bif (decide ((List.length (PV.els (PV.fld p1 2)) : Int) < (2 : Int))) then
      c82 [40] p2 l3 fun n42 p43 l44 =>
      c59 p1 fun p45 =>
      w3 p45 0 l44
    else c82 [40] p2 l3 fun n60 p61 l62 =>
    c59 p1 fun p63 =>
    w4 p63 0 l62
  else bif (decide ((PV.num (PV.fld p1 0)) = (4 : Int))) then
    c82 [76] p2 l3 fun n78 p79 l80 =>
    c59 p1 fun p81 =>
    w5 p81 0 l80
  else bif (decide ((PV.num (PV.fld p1 0)) = (5 : Int))) then
    c82 [82] p2 l3 fun n96 p97 l98 =>
    c59 p1 fun p99 =>
    w6 p99 0 l98
  else bif (decide ((PV.num (PV.fld p1 0)) = (6 : Int))) then
    c82 [91] p2 l3 fun n114 p115 l116 =>
    c59 p1 fun p117 =>
    w7 p117 0 l116
  else bif (decide ((PV.num (PV.fld p1 0)) = (7 : Int))) then
    c82 [60] p2 l3 fun n132 p133 l134 =>
    c59 p1 fun p135 =>
    w8 p135 0 l134
  else c82 [63] p2 l3 fun n150 p151 l152 =>
  c59 p1 fun p153 =>
  w9 p153 0 l152

theorem f60_e_mem (k : Nat) (c59 : PV → (PV → R) → R) (c60v1 : PV → (List PV) → ((List PV) → R) → R) (c82 : (List Int) → PV → (List PV) → (Int → PV → (List PV) → R) → R) (c82v1 : (List Int) → (List PV) → (Int → PV → (List PV) → R) → R) (retF : (List PV) → R) (p1 : PV) (p2 : PV) (l3 : List PV) : exec (f60_E k c59 c60v1 c82 c82v1) f60_code (endK (f60_E k c59 c60v1 c82 c82v1) Try.f60 [2000000, 2000001] f60_un retF) ⟨[.ptr 2000000 [], .val 30 p1, .undef, .undef, .undef, .undef, .undef, .undef, .undef, .undef, .undef, .undef, .undef, .undef, .undef, .undef, .undef, .undef, .undef, .undef, .undef, .undef, .undef, .undef, .undef, .undef, .undef, .undef, .undef, .undef, .undef, .undef, .undef, .undef, .undef, .undef, .undef, .undef, .undef, .undef, .undef, .undef, .undef, .undef, .undef, .undef, .undef, .undef, .undef, .undef, .undef, .undef, .undef, .undef, .undef, .undef, .undef, .undef, .undef, .undef, .undef, .undef, .undef, .undef, .undef, .undef, .undef], [(2000000, .box 76 (.agg 76 [.val 74 p2, .own 43 2000001])), (2000001, .row 5 l3)]⟩ = f60_e c59 c60v1 c82 c82v1 (fun y0 => retF y0) (fun p7 n12 l13 => f60_w1A k c59 c60v1 c82 c82v1 retF p7 n12 l13) (fun p27 n32 l33 => f60_w2A k c59 c60v1 c82 c82v1 retF p27 n32 l33) (fun p45 n50 l51 => f60_w3A k c59 c60v1 c82 c82v1 retF p45 n50 l51) (fun p63 n68 l69 => f60_w4A k c59 c60v1 c82 c82v1 retF p63 n68 l69) (fun p81 n86 l87 => f60_w5A k c59 c60v1 c82 c82v1 retF p81 n86 l87) (fun p99 n104 l105 => f60_w6A k c59 c60v1 c82 c82v1 retF p99 n104 l105) (fun p117 n122 l123 => f60_w7A k c59 c60v1 c82 c82v1 retF p117 n122 l123) (fun p135 n140 l141 => f60_w8A k c59 c60v1 c82 c82v1 retF p135 n140 l141) (fun p153 n158 l159 => f60_w9A k c59 c60v1 c82 c82v1 retF p153 n158 l159) p1 p2 l3 := by kernel_rfl

noncomputable def f60_N (k : Nat) (c59 : PV → (PV → R) → R) (c60v1 : PV → (List PV) → ((List PV) → R) → R) (c82 : (List Int) → PV → (List PV) → (Int → PV → (List PV) → R) → R) (c82v1 : (List Int) → (List PV) → (Int → PV → (List PV) → R) → R) (ret0 : (List PV) → R) (p1 : PV) (p2 : PV) (l3 : List PV) : R :=
  f60_e c59 c60v1 c82 c82v1 ret0 (fun p7 n12 l13 => f60_w1N k c59 c60v1 c82 c82v1 ret0 p7 n12 l13) (fun p27 n32 l33 => f60_w2N k c59 c60v1 c82 c82v1 ret0 p27 n32 l33) (fun p45 n50 l51 => f60_w3N k c59 c60v1 c82 c82v1 ret0 p45 n50 l51) (fun p63 n68 l69 => f60_w4N k c59 c60v1 c82 c82v1 ret0 p63 n68 l69) (fun p81 n86 l87 => f60_w5N k c59 c60v1 c82 c82v1 ret0 p81 n86 l87) (fun p99 n104 l105 => f60_w6N k c59 c60v1 c82 c82v1 ret0 p99 n104 l105) (fun p117 n122 l123 => f60_w7N k c59 c60v1 c82 c82v1 ret0 p117 n122 l123) (fun p135 n140 l141 => f60_w8N k c59 c60v1 c82 c82v1 ret0 p135 n140 l141) (fun p153 n158 l159 => f60_w9N k c59 c60v1 c82 c82v1 ret0 p153 n158 l159) p1 p2 l3
theorem f60_eq (k : Nat) (c59 : PV → (PV → R) → R) (c60v1 : PV → (List PV) → ((List PV) → R) → R) (c82 : (List Int) → PV → (List PV) → (Int → PV → (List PV) → R) → R) (c82v1 : (List Int) → (List PV) → (Int → PV → (List PV) → R) → R) (retF : (List PV) → R) (p1 : PV) (p2 : PV) (l3 : List PV) : exec (f60_E k c59 c60v1 c82 c82v1) f60_code (endK (f60_E k c59 c60v1 c82 c82v1) Try.f60 [2000000, 2000001] f60_un retF) ⟨[.ptr 2000000 [], .val 30 p1, .undef, .undef, .undef, .undef, .undef, .undef, .undef, .undef, .undef, .undef, .undef, .undef, .undef, .undef, .undef, .undef, .undef, .undef, .undef, .undef, .undef, .undef, .undef, .undef, .undef, .undef, .undef, .undef, .undef, .undef, .undef, .undef, .undef, .undef, .undef, .undef, .undef, .undef, .undef, .undef, .undef, .undef, .undef, .undef, .undef, .undef, .undef, .undef, .undef, .undef, .undef, .undef, .undef, .undef, .undef, .undef, .undef, .undef, .undef, .undef, .undef, .undef, .undef, .undef, .undef], [(2000000, .box 76 (.agg 76 [.val 74 p2, .own 43 2000001])), (2000001, .row 5 l3)]⟩ = f60_N k c59 c60v1 c82 c82v1 (fun y0 => retF y0) p1 p2 l3 :=
  (f60_e_mem k c59 c60v1 c82 c82v1 retF p1 p2 l3).trans (by rw [show (fun p7 n12 l13 => f60_w1A k c59 c60v1 c82 c82v1 retF p7 n12 l13) = (fun p7 n12 l13 => f60_w1N k c59 c60v1 c82 c82v1 (fun y0 => retF y0) p7 n12 l13) from funext fun p7 => funext fun n12 => funext fun l13 => f60_w1_eq k c59 c60v1 c82 c82v1 retF p7 n12 l13, show (fun p27 n32 l33 => f60_w2A k c59 c60v1 c82 c82v1 retF p27 n32 l33) = (fun p27 n32 l33 => f60_w2N k c59 c60v1 c82 c82v1 (fun y0 => retF y0) p27 n32 l33) from funext fun p27 => funext fun n32 => funext fun l33 => f60_w2_eq k c59 c60v1 c82 c82v1 retF p27 n32 l33, show (fun p45 n50 l51 => f60_w3A k c59 c60v1 c82 c82v1 retF p45 n50 l51) = (fun p45 n50 l51 => f60_w3N k c59 c60v1 c82 c82v1 (fun y0 => retF y0) p45 n50 l51) from funext fun p45 => funext fun n50 => funext fun l51 => f60_w3_eq k c59 c60v1 c82 c82v1 retF p45 n50 l51, show (fun p63 n68 l69 => f60_w4A k c59 c60v1 c82 c82v1 retF p63 n68 l69) = (fun p63 n68 l69 => f60_w4N k c59 c60v1 c82 c82v1 (fun y0 => retF y0) p63 n68 l69) from funext fun p63 => funext fun n68 => funext fun l69 => f60_w4_eq k c59 c60v1 c82 c82v1 retF p63 n68 l69, show (fun p81 n86 l87 => f60_w5A k c59 c60v1 c82 c82v1 retF p81 n86 l87) = (fun p81 n86 l87 => f60_w5N k c59 c60v1 c82 c82v1 (fun y0 => retF y0) p81 n86 l87) from funext fun p81 => funext fun n86 => funext fun l87 => f60_w5_eq k c59 c60v1 c82 c82v1 retF p81 n86 l87, show (fun p99 n104 l105 => f60_w6A k c59 c60v1 c82 c82v1 retF p99 n104 l105) = (fun p99 n104 l105 => f60_w6N k c59 c60v1 c82 c82v1 (fun y0 => retF y0) p99 n104 l105) from funext fun p99 => funext fun n104 => funext fun l105 => f60_w6_eq k c59 c60v1 c82 c82v1 retF p99 n104 l105, show (fun p117 n122 l123 => f60_w7A k c59 c60v1 c82 c82v1 retF p117 n122 l123) = (fun p117 n122 l123 => f60_w7N k c59 c60v1 c82 c82v1 (fun y0 => retF y0) p117 n122 l123) from funext fun p117 => funext fun n122 => funext fun l123 => f60_w7_eq k c59 c60v1 c82 c82v1 retF p117 n122 l123, show (fun p135 n140 l141 => f60_w8A k c59 c60v1 c82 c82v1 retF p135 n140 l141) = (fun p135 n140 l141 => f60_w8N k c59 c60v1 c82 c82v1 (fun y0 => retF y0) p135 n140 l141) from funext fun p135 => funext fun n140 => funext fun l141 => f60_w8_eq k c59 c60v1 c82 c82v1 retF p135 n140 l141, show (fun p153 n158 l159 => f60_w9A k c59 c60v1 c82 c82v1 retF p153 n158 l159) = (fun p153 n158 l159 => f60_w9N k c59 c60v1 c82 c82v1 (fun y0 => retF y0) p153 n158 l159) from funext fun p153 => funext fun n158 => funext fun l159 => f60_w9_eq k c59 c60v1 c82 c82v1 retF p153 n158 l159]; rfl)

noncomputable def G60 : Nat → PV → PV → (List PV) → ((List PV) → R) → R
  | 0, _, _, _, _ => none
  | k + 1, p1, p2, l3, ret0 => f60_N k (G59 k) (G60v1 k) (G82 k) (G82v1 k) ret0 p1 p2 l3
theorem S60 : ∀ k, Snd Try.prog 60 f60_I f60_O (fun x ret => G60 k x.1 x.2.1 x.2.2 (fun y0 => ret y0))
  | 0 => snd_none
  | k + 1 => snd_step (E := f60_E k (G59 k) (G60v1 k) (G82 k) (G82v1 k)) rfl laidOut noNums (orc_ok (S59 k).o f59_D_ok (orc_ok (S60v1 k).o f60v1_D_ok (orc_ok (S82 k).o f82_D_ok (orc_ok (S82v1 k).o f82v1_D_ok orc0_ok)))) (f := 60) (fn := Try.f60) (code := f60_code) Try.func60 (by kernel_rfl) (drawsOk_of laidOut (orc_ok (S59 k).o f59_D_ok (orc_ok (S60v1 k).o f60v1_D_ok (orc_ok (S82 k).o f82_D_ok (orc_ok (S82v1 k).o f82v1_D_ok orc0_ok)))) mixed (by kernel_rfl)) f60_un f60_un_ok [2000000, 2000001] (fun _ => rfl)
      (fun x ret => f60_eq k (G59 k) (G60v1 k) (G82 k) (G82v1 k) ret x.1 x.2.1 x.2.2)

/- (*strings.Builder).String -/
noncomputable def f61_I : (List PV) → List SV × Obs := fun x => ([.ptr 2000000 []], [(2000000, .box 76 (.agg 76 [.ptr 2000000 [], .own 43 2000001])), (2000001, .row 5 x)])
noncomputable def f61_D : List SV → Obs → Option ((List PV))
  | [.ptr 2000000 []], [(2000000, .box 76 (.agg 76 [.ptr 2000000 [], .own 43 2000001])), (2000001, .row 5 l1)] => some l1
  | _, _ => none
theorem f61_D_ok (args : List SV) (B : Obs) (x : (List PV)) (h : f61_D args B = some x) : f61_I x = (args, B) := by
  unfold f61_D at h
  split at h
  · injection h with h; subst h; rfl
  · cases h
noncomputable def f61_O : (List Int) → Out := (fun y => ([.str y], [(2000000, .box 76 (.agg 76 [.ptr 2000000 [], .dead]))]))
noncomputable def f61_un : Out → Option ((List Int))
  | ([.str y0], [(2000000, .box 76 (.agg 76 [.ptr 2000000 [], .dead]))]) => some y0
  | _ => none
theorem f61_un_ok (o : Out) (y : (List Int)) (h : f61_un o = some y) : o = f61_O y := by
  unfold f61_un at h
  split at h
  · injection h with h; subst h; rfl
  · cases h

noncomputable def G61 : Nat → (List PV) → ((List Int) → R) → R
  | _, l, ret0 => ret0 (l.map PV.num)
theorem S61 : ∀ k, SndO Try.prog 61 f61_I f61_O (fun x ret => G61 k x (fun y0 => ret y0)) := fun k => Bld.strUsed

/- catchpole/value.Text -/
noncomputable def f25_I : PV → List SV × Obs := fun x => ([.val 30 x], [])
noncomputable def f25_D : List SV → Obs → Option (PV)
  | [.val 30 p1], [] => some p1
  | _, _ => none
theorem f25_D_ok (args : List SV) (B : Obs) (x : PV) (h : f25_D args B = some x) : f25_I x = (args, B) := by
  unfold f25_D at h
  split at h
  · injection h with h; subst h; rfl
  · cases h
noncomputable def f25_O : (List Int) → Out := (fun y => ([.str y], []))
noncomputable def f25_un : Out → Option ((List Int))
  | ([.str y0], []) => some y0
  | _ => none
theorem f25_un_ok (o : Out) (y : (List Int)) (h : f25_un o = some y) : o = f25_O y := by
  unfold f25_un at h
  split at h
  · injection h with h; subst h; rfl
  · cases h
noncomputable def f25_msk : Nat → Option (List Nat) := fun key =>  none
noncomputable def f25_C (c60 : PV → PV → (List PV) → ((List PV) → R) → R) (c61 : (List PV) → ((List Int) → R) → R) : Oracle := orc 60 f60_D f60_O (fun x ret => c60 x.1 x.2.1 x.2.2 (fun y0 => ret y0)) <| orc 61 f61_D f61_O (fun x ret => c61 x (fun y0 => ret y0)) <| orc0
noncomputable def f25_E (k : Nat) (c60 : PV → PV → (List PV) → ((List PV) → R) → R) (c61 : (List PV) → ((List Int) → R) → R) : Env := { P := Try.prog, nilOwn := fun d => false, fldOwn := fun d i => (d == 3 && i == 1), ownPar := ownPars, ownRet := false, mask := f25_msk, fuel := k, C := f25_C c60 c61 }
noncomputable def f25_code : Code := Try.f25.body.getD .skip
noncomputable def f25_e (c60 : PV → PV → (List PV) → ((List PV) → R) → R) (c61 : (List PV) → ((List Int) → R) → R) (ret0 : (List Int) → R) (p1 : PV) : R :=
  c60 p1 PV.nil [] fun l2 =>
  c61 l2 fun s3 =>
  ret0 s3

theorem f25_e_mem (k : Nat) (c60 : PV → PV → (List PV) → ((List PV) → R) → R) (c61 : (List PV) → ((List Int) → R) → R) (retF : (List Int) → R) (p1 : PV) : exec (f25_E k c60 c61) f25_code (endK (f25_E k c60 c61) Try.f25 [] f25_un retF) ⟨[.val 30 p1, .undef, .undef, .undef, .undef, .undef, .undef], []⟩ = f25_e c60 c61 (fun y0 => retF y0) p1 := by kernel_rfl

noncomputable def f25_N (k : Nat) (c60 : PV → PV → (List PV) → ((List PV) → R) → R) (c61 : (List PV) → ((List Int) → R) → R) (ret0 : (List Int) → R) (p1 : PV) : R :=
  f25_e c60 c61 ret0 p1
theorem f25_eq (k : Nat) (c60 : PV → PV → (List PV) → ((List PV) → R) → R) (c61 : (List PV) → ((List Int) → R) → R) (retF : (List Int) → R) (p1 : PV) : exec (f25_E k c60 c61) f25_code (endK (f25_E k c60 c61) Try.f25 [] f25_un retF) ⟨[.val 30 p1, .undef, .undef, .undef, .undef, .undef, .undef], []⟩ = f25_N k c60 c61 (fun y0 => retF y0) p1 :=
  (f25_e_mem k c60 c61 retF p1)

noncomputable def G25 : Nat → PV → ((List Int) → R) → R
  | 0, _, _ => none
  | k + 1, p1, ret0 => f25_N k (G60 k) (G61 k) ret0 p1
theorem S25 : ∀ k, Snd Try.prog 25 f25_I f25_O (fun x ret => G25 k x (fun y0 => ret y0))
  | 0 => snd_none
  | k + 1 => snd_step (E := f25_E k (G60 k) (G61 k)) rfl laidOut noNums (orc_ok (S60 k).o f60_D_ok (orc_ok (S61 k).o f61_D_ok orc0_ok)) (f := 25) (fn := Try.f25) (code := f25_code) Try.func25 (by kernel_rfl) (drawsOk_of laidOut (orc_ok (S60 k).o f60_D_ok (orc_ok (S61 k).o f61_D_ok orc0_ok)) mixed (by kernel_rfl)) f25_un f25_un_ok [] (fun _ => rfl)
      (fun x ret => f25_eq k (G60 k) (G61 k) ret x)

/- catchpole/value.flat -/
noncomputable def f63_I : PV × (List PV) → List SV × Obs := fun x => ([.own 43 2000000, .val 30 x.1], [(2000000, .row 5 x.2)])
noncomputable def f63_D : List SV → Obs → Option (PV × (List PV))
  | [.own 43 2000000, .val 30 p1], [(2000000, .row 5 l2)] => some (p1, l2)
  | _, _ => none
theorem f63_D_ok (args : List SV) (B : Obs) (x : PV × (List PV)) (h : f63_D args B = some x) : f63_I x = (args, B) := by
  unfold f63_D at h
  split at h
  · injection h with h; subst h; rfl
  · cases h
noncomputable def f63_O : (List PV) → Out := (fun y => ([.own 43 2000000], [(2000000, .row 5 y)]))
noncomputable def f63_un : Out → Option ((List PV))
  | ([.own 43 2000000], [(2000000, .row 5 y0)]) => some y0
  | _ => none
theorem f63_un_ok (o : Out) (y : (List PV)) (h : f63_un o = some y) : o = f63_O y := by
  unfold f63_un at h
  split at h
  · injection h with h; subst h; rfl
  · cases h
noncomputable def f63_msk : Nat → Option (List Nat) := fun key => bif key == 12 then some [0, 16, 17, 18] else none
noncomputable def f63_C (c59 : PV → (PV → R) → R) (c63 : PV → (List PV) → ((List PV) → R) → R) : Oracle := orc 59 f59_D f59_O (fun x ret => c59 x (fun y0 => ret y0)) <| orc 63 f63_D f63_O (fun x ret => c63 x.1 x.2 (fun y0 => ret y0)) <| orc0
noncomputable def f63_E (k : Nat) (c59 : PV → (PV → R) → R) (c63 : PV → (List PV) → ((List PV) → R) → R) : Env := { P := Try.prog, nilOwn := fun d => false, fldOwn := fun d i => false, ownPar := ownPars, ownRet := true, mask := f63_msk, fuel := k, C := f63_C c59 c63 }
noncomputable def f63_code : Code := Try.f63.body.getD .skip
noncomputable def f63_cw1 : Code := subC f63_code [1, 1, 0, 1, 0, 0]
noncomputable def f63_hw1_0 (p3 : PV) (n5 : Int) (l6 : List PV) : St := ⟨[.own 43 2000000, .dead, .dead, .dead, .dead, .dead, .dead, .dead, .dead, .dead, .dead, .dead, .dead, .dead, .dead, .dead, .val 28 p3, .int .i64 (List.length (PV.els p3) : Int), .int .i64 n5, .dead, .dead, .dead, .dead, .dead, .dead, .dead, .dead], [(2000000, .row 5 l6)]⟩
noncomputable def f63_w1A (k : Nat) (c59 : PV → (PV → R) → R) (c63 : PV → (List PV) → ((List PV) → R) → R) (retF : (List PV) → R) (p3 : PV) (n5 : Int) (l6 : List PV) : R := loopM (f63_E k c59 c63) f63_cw1 (kont (f63_E k c59 c63) f63_code [1, 1, 0, 1, 0] (endK (f63_E k c59 c63) Try.f63 [2000000] f63_un retF)) k (f63_hw1_0 p3 n5 l6)
noncomputable def f63_w1b0 (c59 : PV → (PV → R) → R) (c63 : PV → (List PV) → ((List PV) → R) → R) (ret0 : (List PV) → R) (next_w1_0 : Int → (List PV) → R) (p3 : PV) (n5 : Int) (l6 : List PV) : R :=
  bif (decide (n5 < (List.length (PV.els p3) : Int))) then
    bif (true && decide ((0 : Int) ≤ n5) && decide (n5 < (List.length (PV.els p3) : Int))) then
      c63 (List.getD (PV.els p3) (n5).toNat PV.nil) l6 fun l7 =>
      next_w1_0 (IntKind.wrap .i64 (n5 + (1 : Int))) l7
    else none
  else ret0 l6

theorem f63_w1b0_mem (k : Nat) (c59 : PV → (PV → R) → R) (c63 : PV → (List PV) → ((List PV) → R) → R) (retF : (List PV) → R) (NX_w1 : St → R) (p3 : PV) (n5 : Int) (l6 : List PV) : exec (f63_E k c59 c63) f63_cw1 (purgeK (f63_E k c59 c63) f63_cw1 (loopK NX_w1 (kont (f63_E k c59 c63) f63_code [1, 1, 0, 1, 0] (endK (f63_E k c59 c63) Try.f63 [2000000] f63_un retF)))) (f63_hw1_0 p3 n5 l6) = f63_w1b0 c59 c63 (fun y0 => retF y0) (fun n5 l6 => NX_w1 (f63_hw1_0 p3 n5 l6)) p3 n5 l6 := by kernel_rfl

noncomputable def f63_w1b0N (k : Nat) (c59 : PV → (PV → R) → R) (c63 : PV → (List PV) → ((List PV) → R) → R) (ret0 : (List PV) → R) (next_w1_0 : Int → (List PV) → R) (p3 : PV) (n5 : Int) (l6 : List PV) : R :=
  f63_w1b0 c59 c63 ret0 next_w1_0 p3 n5 l6
theorem f63_w1b0_eq (k : Nat) (c59 : PV → (PV → R) → R) (c63 : PV → (List PV) → ((List PV) → R) → R) (retF : (List PV) → R) (NX_w1 : St → R) (p3 : PV) (n5 : Int) (l6 : List PV) : exec (f63_E k c59 c63) f63_cw1 (purgeK (f63_E k c59 c63) f63_cw1 (loopK NX_w1 (kont (f63_E k c59 c63) f63_code [1, 1, 0, 1, 0] (endK (f63_E k c59 c63) Try.f63 [2000000] f63_un retF)))) (f63_hw1_0 p3 n5 l6) = f63_w1b0N k c59 c63 (fun y0 => retF y0) (fun n5 l6 => NX_w1 (f63_hw1_0 p3 n5 l6)) p3 n5 l6 :=
  (f63_w1b0_mem k c59 c63 retF NX_w1 p3 n5 l6)

noncomputable def f63_w1B (k : Nat) (c59 : PV → (PV → R) → R) (c63 : PV → (List PV) → ((List PV) → R) → R) (ret0 : (List PV) → R) (p3 : PV) (nx : Int × (List PV) → R) : Int × (List PV) → R := (fun s => f63_w1b0N k c59 c63 ret0 (fun n5 l6 => nx (n5, l6)) p3 s.1 s.2)
noncomputable def f63_w1N (k : Nat) (c59 : PV → (PV → R) → R) (c63 : PV → (List PV) → ((List PV) → R) → R) (ret0 : (List PV) → R) (p3 : PV) (n5 : Int) (l6 : List PV) : R := loopR (f63_w1B k c59 c63 ret0 p3) k (n5, l6)
theorem f63_w1_eq (k : Nat) (c59 : PV → (PV → R) → R) (c63 : PV → (List PV) → ((List PV) → R) → R) (retF : (List PV) → R) (p3 : PV) (n5 : Int) (l6 : List PV) : f63_w1A k c59 c63 retF p3 n5 l6 = f63_w1N k c59 c63 (fun y0 => retF y0) p3 n5 l6 :=
  Eq.mp (by kernel_rfl) (loop_sim (E := (f63_E k c59 c63)) (c := f63_cw1) (K := (kont (f63_E k c59 c63) f63_code [1, 1, 0, 1, 0] (endK (f63_E k c59 c63) Try.f63 [2000000] f63_un retF))) (S := Int × (List PV)) (fun s => f63_hw1_0 p3 s.1 s.2) (f63_w1B k c59 c63 (fun y0 => retF y0) p3) (fun NX s => by
    exact Eq.mp (by kernel_rfl) (f63_w1b0_eq k c59 c63 retF NX p3 s.1 s.2)) k (n5, l6))

noncomputable def f63_cw2 : Code := subC f63_code [1, 1, 0, 1, 0, 0]
noncomputable def f63_hw2_0 (p8 : PV) (n10 : Int) (l11 : List PV) : St := ⟨[.own 43 2000000, .dead, .dead, .dead, .dead, .dead, .dead, .dead, .dead, .dead, .dead, .dead, .dead, .dead, .dead, .dead, .val 28 p8, .int .i64 (List.length (PV.els p8) : Int), .int .i64 n10, .dead, .dead, .dead, .dead, .dead, .dead, .dead, .dead], [(2000000, .row 5 l11)]⟩
noncomputable def f63_w2A (k : Nat) (c59 : PV → (PV → R) → R) (c63 : PV → (List PV) → ((List PV) → R) → R) (retF : (List PV) → R) (p8 : PV) (n10 : Int) (l11 : List PV) : R := loopM (f63_E k c59 c63) f63_cw2 (kont (f63_E k c59 c63) f63_code [1, 1, 0, 1, 0] (endK (f63_E k c59 c63) Try.f63 [2000000] f63_un retF)) k (f63_hw2_0 p8 n10 l11)
noncomputable def f63_w2b0 (c59 : PV → (PV → R) → R) (c63 : PV → (List PV) → ((List PV) → R) → R) (ret0 : (List PV) → R) (next_w2_0 : Int → (List PV) → R) (p8 : PV) (n10 : Int) (l11 : List PV) : R :=
  bif (decide (n10 < (List.length (PV.els p8) : Int))) then
    bif (true && decide ((0 : Int) ≤ n10) && decide (n10 < (List.length (PV.els p8) : Int))) then
      c63 (List.getD (PV.els p8) (n10).toNat PV.nil) l11 fun l12 =>
      next_w2_0 (IntKind.wrap .i64 (n10 + (1 : Int))) l12
    else none
  else ret0 l11

theorem f63_w2b0_mem (k : Nat) (c59 : PV → (PV → R) → R) (c63 : PV → (List PV) → ((List PV) → R) → R) (retF : (List PV) → R) (NX_w2 : St → R) (p8 : PV) (n10 : Int) (l11 : List PV) : exec (f63_E k c59 c63) f63_cw2 (purgeK (f63_E k c59 c63) f63_cw2 (loopK NX_w2 (kont (f63_E k c59 c63) f63_code [1, 1, 0, 1, 0] (endK (f63_E k c59 c63) Try.f63 [2000000] f63_un retF)))) (f63_hw2_0 p8 n10 l11) = f63_w2b0 c59 c63 (fun y0 => retF y0) (fun n10 l11 => NX_w2 (f63_hw2_0 p8 n10 l11)) p8 n10 l11 := by kernel_rfl

noncomputable def f63_w2b0N (k : Nat) (c59 : PV → (PV → R) → R) (c63 : PV → (List PV) → ((List PV) → R) → R) (ret0 : (List PV) → R) (next_w2_0 : Int → (List PV) → R) (p8 : PV) (n10 : Int) (l11 : List PV) : R :=
  f63_w2b0 c59 c63 ret0 next_w2_0 p8 n10 l11
theorem f63_w2b0_eq (k : Nat) (c59 : PV → (PV → R) → R) (c63 : PV → (List PV) → ((List PV) → R) → R) (retF : (List PV) → R) (NX_w2 : St → R) (p8 : PV) (n10 : Int) (l11 : List PV) : exec (f63_E k c59 c63) f63_cw2 (purgeK (f63_E k c59 c63) f63_cw2 (loopK NX_w2 (kont (f63_E k c59 c63) f63_code [1, 1, 0, 1, 0] (endK (f63_E k c59 c63) Try.f63 [2000000] f63_un retF)))) (f63_hw2_0 p8 n10 l11) = f63_w2b0N k c59 c63 (fun y0 => retF y0) (fun n10 l11 => NX_w2 (f63_hw2_0 p8 n10 l11)) p8 n10 l11 :=
  (f63_w2b0_mem k c59 c63 retF NX_w2 p8 n10 l11)

noncomputable def f63_w2B (k : Nat) (c59 : PV → (PV → R) → R) (c63 : PV → (List PV) → ((List PV) → R) → R) (ret0 : (List PV) → R) (p8 : PV) (nx : Int × (List PV) → R) : Int × (List PV) → R := (fun s => f63_w2b0N k c59 c63 ret0 (fun n10 l11 => nx (n10, l11)) p8 s.1 s.2)
noncomputable def f63_w2N (k : Nat) (c59 : PV → (PV → R) → R) (c63 : PV → (List PV) → ((List PV) → R) → R) (ret0 : (List PV) → R) (p8 : PV) (n10 : Int) (l11 : List PV) : R := loopR (f63_w2B k c59 c63 ret0 p8) k (n10, l11)
theorem f63_w2_eq (k : Nat) (c59 : PV → (PV → R) → R) (c63 : PV → (List PV) → ((List PV) → R) → R) (retF : (List PV) → R) (p8 : PV) (n10 : Int) (l11 : List PV) : f63_w2A k c59 c63 retF p8 n10 l11 = f63_w2N k c59 c63 (fun y0 => retF y0) p8 n10 l11 :=
  Eq.mp (by kernel_rfl) (loop_sim (E := (f63_E k c59 c63)) (c := f63_cw2) (K := (kont (f63_E k c59 c63) f63_code [1, 1, 0, 1, 0] (endK (f63_E k c59 c63) Try.f63 [2000000] f63_un retF))) (S := Int × (List PV)) (fun s => f63_hw2_0 p8 s.1 s.2) (f63_w2B k c59 c63 (fun y0 => retF y0) p8) (fun NX s => by
    exact Eq.mp (by kernel_rfl) (f63_w2b0_eq k c59 c63 retF NX p8 s.1 s.2)) k (n10, l11))

noncomputable def f63_e (c59 : PV → (PV → R) → R) (c63 : PV → (List PV) → ((List PV) → R) → R) (ret0 : (List PV) → R) (w1 : PV → Int → (List PV) → R) (w2 : PV → Int → (List PV) → R) (p1 : PV) (l2 : List PV) : R :=
  bif (decide ((PV.num (PV.fld p1 0)) = (2 : Int))) then
    bif (true && roomy (List.length l2 + List.length [(PV.int (PV.num (PV.fld p1 1)))]) 1) then
      c59 p1 fun p3 =>
      w1 p3 0 (l2 ++ [(PV.int (PV.num (PV.fld p1 1)))])
    else none
  else c59 p1 fun p8 =>
  w2 p8 0 l2

theorem f63_e_mem (k : Nat) (c59 : PV → (PV → R) → R) (c63 : PV → (List PV) → ((List PV) → R) → R) (retF : (List PV) → R) (p1 : PV) (l2 : List PV) : exec (f63_E k c59 c63) f63_code (endK (f63_E k c59 c63) Try.f63 [2000000] f63_un retF) ⟨[.own 43 2000000, .val 30 p1, .undef, .undef, .undef, .undef, .undef, .undef, .undef, .undef, .undef, .undef, .undef, .undef, .undef, .undef, .undef, .undef, .undef, .undef, .undef, .undef, .undef, .undef, .undef, .undef, .undef], [(2000000, .row 5 l2)]⟩ = f63_e c59 c63 (fun y0 => retF y0) (fun p3 n5 l6 => f63_w1A k c59 c63 retF p3 n5 l6) (fun p8 n10 l11 => f63_w2A k c59 c63 retF p8 n10 l11) p1 l2 := by kernel_rfl

noncomputable def f63_N (k : Nat) (c59 : PV → (PV → R) → R) (c63 : PV → (List PV) → ((List PV) → R) → R) (ret0 : (List PV) → R) (p1 : PV) (l2 : List PV) : R :=
  f63_e c59 c63 ret0 (fun p3 n5 l6 => f63_w1N k c59 c63 ret0 p3 n5 l6) (fun p8 n10 l11 => f63_w2N k c59 c63 ret0 p8 n10 l11) p1 l2
theorem f63_eq (k : Nat) (c59 : PV → (PV → R) → R) (c63 : PV → (List PV) → ((List PV) → R) → R) (retF : (List PV) → R) (p1 : PV) (l2 : List PV) : exec (f63_E k c59 c63) f63_code (endK (f63_E k c59 c63) Try.f63 [2000000] f63_un retF) ⟨[.own 43 2000000, .val 30 p1, .undef, .undef, .undef, .undef, .undef, .undef, .undef, .undef, .undef, .undef, .undef, .undef, .undef, .undef, .undef, .undef, .undef, .undef, .undef, .undef, .undef, .undef, .undef, .undef, .undef], [(2000000, .row 5 l2)]⟩ = f63_N k c59 c63 (fun y0 => retF y0) p1 l2 :=
  (f63_e_mem k c59 c63 retF p1 l2).trans (by rw [show (fun p3 n5 l6 => f63_w1A k c59 c63 retF p3 n5 l6) = (fun p3 n5 l6 => f63_w1N k c59 c63 (fun y0 => retF y0) p3 n5 l6) from funext fun p3 => funext fun n5 => funext fun l6 => f63_w1_eq k c59 c63 retF p3 n5 l6, show (fun p8 n10 l11 => f63_w2A k c59 c63 retF p8 n10 l11) = (fun p8 n10 l11 => f63_w2N k c59 c63 (fun y0 => retF y0) p8 n10 l11) from funext fun p8 => funext fun n10 => funext fun l11 => f63_w2_eq k c59 c63 retF p8 n10 l11]; rfl)

noncomputable def G63 : Nat → PV → (List PV) → ((List PV) → R) → R
  | 0, _, _, _ => none
  | k + 1, p1, l2, ret0 => f63_N k (G59 k) (G63 k) ret0 p1 l2
theorem S63 : ∀ k, Snd Try.prog 63 f63_I f63_O (fun x ret => G63 k x.1 x.2 (fun y0 => ret y0))
  | 0 => snd_none
  | k + 1 => snd_step (E := f63_E k (G59 k) (G63 k)) rfl laidOut noNums (orc_ok (S59 k).o f59_D_ok (orc_ok (S63 k).o f63_D_ok orc0_ok)) (f := 63) (fn := Try.f63) (code := f63_code) Try.func63 (by kernel_rfl) (drawsOk_of laidOut (orc_ok (S59 k).o f59_D_ok (orc_ok (S63 k).o f63_D_ok orc0_ok)) mixed (by kernel_rfl)) f63_un f63_un_ok [2000000] (fun _ => rfl)
      (fun x ret => f63_eq k (G59 k) (G63 k) ret x.1 x.2)

/- catchpole/value.Flat -/
noncomputable def f27_I : PV → List SV × Obs := fun x => ([.val 30 x], [])
noncomputable def f27_D : List SV → Obs → Option (PV)
  | [.val 30 p1], [] => some p1
  | _, _ => none
theorem f27_D_ok (args : List SV) (B : Obs) (x : PV) (h : f27_D args B = some x) : f27_I x = (args, B) := by
  unfold f27_D at h
  split at h
  · injection h with h; subst h; rfl
  · cases h
noncomputable def f27_O : PV → Out := (fun y => ([.val 43 y], []))
noncomputable def f27_un : Out → Option (PV)
  | ([.val 43 y0], []) => some y0
  | _ => none
theorem f27_un_ok (o : Out) (y : PV) (h : f27_un o = some y) : o = f27_O y := by
  unfold f27_un at h
  split at h
  · injection h with h; subst h; rfl
  · cases h
noncomputable def f27_msk : Nat → Option (List Nat) := fun key =>  none
noncomputable def f27_C (c63 : PV → (List PV) → ((List PV) → R) → R) : Oracle := orc 63 f63_D f63_O (fun x ret => c63 x.1 x.2 (fun y0 => ret y0)) <| orc0
noncomputable def f27_E (k : Nat) (c63 : PV → (List PV) → ((List PV) → R) → R) : Env := { P := Try.prog, nilOwn := fun d => false, fldOwn := fun d i => false, ownPar := ownPars, ownRet := false, mask := f27_msk, fuel := k, C := f27_C c63 }
noncomputable def f27_code : Code := Try.f27.body.getD .skip
noncomputable def f27_e (c63 : PV → (List PV) → ((List PV) → R) → R) (ret0 : PV → R) (p1 : PV) : R :=
  c63 p1 [] fun l2 =>
  ret0 (PV.list l2)

theorem f27_e_mem (k : Nat) (c63 : PV → (List PV) → ((List PV) → R) → R) (retF : PV → R) (p1 : PV) : exec (f27_E k c63) f27_code (endK (f27_E k c63) Try.f27 [] f27_un retF) ⟨[.val 30 p1, .undef, .undef, .undef, .undef], []⟩ = f27_e c63 (fun y0 => retF y0) p1 := by kernel_rfl

noncomputable def f27_N (k : Nat) (c63 : PV → (List PV) → ((List PV) → R) → R) (ret0 : PV → R) (p1 : PV) : R :=
  f27_e c63 ret0 p1
theorem f27_eq (k : Nat) (c63 : PV → (List PV) → ((List PV) → R) → R) (retF : PV → R) (p1 : PV) : exec (f27_E k c63) f27_code (endK (f27_E k c63) Try.f27 [] f27_un retF) ⟨[.val 30 p1, .undef, .undef, .undef, .undef], []⟩ = f27_N k c63 (fun y0 => retF y0) p1 :=
  (f27_e_mem k c63 retF p1)

noncomputable def G27 : Nat → PV → (PV → R) → R
  | 0, _, _ => none
  | k + 1, p1, ret0 => f27_N k (G63 k) ret0 p1
theorem S27 : ∀ k, Snd Try.prog 27 f27_I f27_O (fun x ret => G27 k x (fun y0 => ret y0))
  | 0 => snd_none
  | k + 1 => snd_step (E := f27_E k (G63 k)) rfl laidOut noNums (orc_ok (S63 k).o f63_D_ok orc0_ok) (f := 27) (fn := Try.f27) (code := f27_code) Try.func27 (by kernel_rfl) (drawsOk_of laidOut (orc_ok (S63 k).o f63_D_ok orc0_ok) mixed (by kernel_rfl)) f27_un f27_un_ok [] (fun _ => rfl)
      (fun x ret => f27_eq k (G63 k) ret x)

/- catchpole/byteset.Of -/
noncomputable def f64_I : PV → List SV × Obs := fun x => ([.val 43 x], [])
noncomputable def f64_D : List SV → Obs → Option (PV)
  | [.val 43 p1], [] => some p1
  | _, _ => none
theorem f64_D_ok (args : List SV) (B : Obs) (x : PV) (h : f64_D args B = some x) : f64_I x = (args, B) := by
  unfold f64_D at h
  split at h
  · injection h with h; subst h; rfl
  · cases h
noncomputable def f64_O : PV → Out := (fun y => ([.val 24 y], []))
noncomputable def f64_un : Out → Option (PV)
  | ([.val 24 y0], []) => some y0
  | _ => none
theorem f64_un_ok (o : Out) (y : PV) (h : f64_un o = some y) : o = f64_O y := by
  unfold f64_un at h
  split at h
  · injection h with h; subst h; rfl
  · cases h
noncomputable def f64_msk : Nat → Option (List Nat) := fun key => bif key == 9 then some [2, 3, 6, 7, 8] else none
noncomputable def f64_C : Oracle := orc0
noncomputable def f64_E (k : Nat) : Env := { P := Try.prog, nilOwn := fun d => false, fldOwn := fun d i => false, ownPar := ownPars, ownRet := false, mask := f64_msk, fuel := k, C := f64_C }
noncomputable def f64_code : Code := Try.f64.body.getD .skip
noncomputable def f64_cw1 : Code := subC f64_code [1, 1, 0, 1, 0, 0]
noncomputable def f64_hw1_0 (p1 : PV) (n5 : Int) (p6 : PV) : St := ⟨[.dead, .dead, .ptr 2 [], .ptr 3 [], .dead, .dead, .val 43 p1, .int .i64 (List.length (PV.els p1) : Int), .int .i64 n5, .dead, .dead, .dead, .dead, .dead, .dead, .dead, .dead, .dead, .dead, .dead, .dead, .dead, .dead], [(2, .box 24 (.val 24 (PV.agg [(PV.int 0), (PV.int 0), (PV.int 0), (PV.int 0)]))), (3, .box 24 (.val 24 p6))]⟩
noncomputable def f64_w1A (k : Nat) (retF : PV → R) (p1 : PV) (n5 : Int) (p6 : PV) : R := loopM (f64_E k) f64_cw1 (kont (f64_E k) f64_code [1, 1, 0, 1, 0] (endK (f64_E k) Try.f64 [] f64_un retF)) k (f64_hw1_0 p1 n5 p6)
noncomputable def f64_w1b0 (ret0 : PV → R) (next_w1_0 : Int → PV → R) (p1 : PV) (n5 : Int) (p6 : PV) : R :=
  bif (decide (n5 < (List.length (PV.els p1) : Int))) then
    bif (true && decide ((0 : Int) ≤ n5) && decide (n5 < (List.length (PV.els p1) : Int))) then
      bif (true && decide ((0 : Int) ≤ (IntKind.wrap .u8 (Int.tdiv (PV.num (List.getD (PV.els p1) (n5).toNat PV.nil)) 64))) && decide ((IntKind.wrap .u8 (Int.tdiv (PV.num (List.getD (PV.els p1) (n5).toNat PV.nil)) 64)) < 4)) then
        let n7 : Int := (PV.num (PV.fld p6 ((IntKind.wrap .u8 (Int.tdiv (PV.num (List.getD (PV.els p1) (n5).toNat PV.nil)) 64))).toNat))
        bif (decide ((0 : Int) ≤ (Int.tmod (PV.num (List.getD (PV.els p1) (n5).toNat PV.nil)) 64))) then
          let n8 : Int := (IntKind.wrap .u64 ((1 : Int) * 2 ^ (min ((Int.tmod (PV.num (List.getD (PV.els p1) (n5).toNat PV.nil)) 64)).toNat 64)))
          bif (true && decide ((0 : Int) ≤ (IntKind.wrap .u8 (Int.tdiv (PV.num (List.getD (PV.els p1) (n5).toNat PV.nil)) 64))) && decide ((IntKind.wrap .u8 (Int.tdiv (PV.num (List.getD (PV.els p1) (n5).toNat PV.nil)) 64)) < 4)) then
            let p9 : PV := (PV.agg (List.set (PV.flds p6) ((IntKind.wrap .u8 (Int.tdiv (PV.num (List.getD (PV.els p1) (n5).toNat PV.nil)) 64))).toNat (PV.int (intBit .or .u64 n7 n8))))
            next_w1_0 (IntKind.wrap .i64 (n5 + (1 : Int))) p9
          else none
        else none
      else none
    else none
  else ret0 p6

theorem f64_w1b0_mem (k : Nat) (retF : PV → R) (NX_w1 : St → R) (p1 : PV) (n5 : Int) (p6 : PV) : exec (f64_E k) f64_cw1 (purgeK (f64_E k) f64_cw1 (loopK NX_w1 (kont (f64_E k) f64_code [1, 1, 0, 1, 0] (endK (f64_E k) Try.f64 [] f64_un retF)))) (f64_hw1_0 p1 n5 p6) = f64_w1b0 (fun y0 => retF y0) (fun n5 p6 => NX_w1 (f64_hw1_0 p1 n5 p6)) p1 n5 p6 := by kernel_rfl

noncomputable def f64_w1b0N (k : Nat) (ret0 : PV → R) (next_w1_0 : Int → PV → R) (p1 : PV) (n5 : Int) (p6 : PV) : R :=
  f64_w1b0 ret0 next_w1_0 p1 n5 p6
theorem f64_w1b0_eq (k : Nat) (retF : PV → R) (NX_w1 : St → R) (p1 : PV) (n5 : Int) (p6 : PV) : exec (f64_E k) f64_cw1 (purgeK (f64_E k) f64_cw1 (loopK NX_w1 (kont (f64_E k) f64_code [1, 1, 0, 1, 0] (endK (f64_E k) Try.f64 [] f64_un retF)))) (f64_hw1_0 p1 n5 p6) = f64_w1b0N k (fun y0 => retF y0) (fun n5 p6 => NX_w1 (f64_hw1_0 p1 n5 p6)) p1 n5 p6 :=
  (f64_w1b0_mem k retF NX_w1 p1 n5 p6)

noncomputable def f64_w1B (k : Nat) (ret0 : PV → R) (p1 : PV) (nx : Int × PV → R) : Int × PV → R := (fun s => f64_w1b0N k ret0 (fun n5 p6 => nx (n5, p6)) p1 s.1 s.2)
noncomputable def f64_w1N (k : Nat) (ret0 : PV → R) (p1 : PV) (n5 : Int) (p6 : PV) : R := loopR (f64_w1B k ret0 p1) k (n5, p6)
theorem f64_w1_eq (k : Nat) (retF : PV → R) (p1 : PV) (n5 : Int) (p6 : PV) : f64_w1A k retF p1 n5 p6 = f64_w1N k (fun y0 => retF y0) p1 n5 p6 :=
  Eq.mp (by kernel_rfl) (loop_sim (E := (f64_E k)) (c := f64_cw1) (K := (kont (f64_E k) f64_code [1, 1, 0, 1, 0] (endK (f64_E k) Try.f64 [] f64_un retF))) (S := Int × PV) (fun s => f64_hw1_0 p1 s.1 s.2) (f64_w1B k (fun y0 => retF y0) p1) (fun NX s => by
    exact Eq.mp (by kernel_rfl) (f64_w1b0_eq k retF NX p1 s.1 s.2)) k (n5, p6))

noncomputable def f64_e (ret0 : PV → R) (w1 : Int → PV → R) (p1 : PV) : R :=
  w1 0 (PV.agg [(PV.int 0), (PV.int 0), (PV.int 0), (PV.int 0)])

theorem f64_e_mem (k : Nat) (retF : PV → R) (p1 : PV) : exec (f64_E k) f64_code (endK (f64_E k) Try.f64 [] f64_un retF) ⟨[.val 43 p1, .undef, .undef, .undef, .undef, .undef, .undef, .undef, .undef, .undef, .undef, .undef, .undef, .undef, .undef, .undef, .undef, .undef, .undef, .undef, .undef, .undef, .undef], []⟩ = f64_e (fun y0 => retF y0) (fun n5 p6 => f64_w1A k retF p1 n5 p6) p1 := by kernel_rfl

noncomputable def f64_N (k : Nat) (ret0 : PV → R) (p1 : PV) : R :=
  f64_e ret0 (fun n5 p6 => f64_w1N k ret0 p1 n5 p6) p1
theorem f64_eq (k : Nat) (retF : PV → R) (p1 : PV) : exec (f64_E k) f64_code (endK (f64_E k) Try.f64 [] f64_un retF) ⟨[.val 43 p1, .undef, .undef, .undef, .undef, .undef, .undef, .undef, .undef, .undef, .undef, .undef, .undef, .undef, .undef, .undef, .undef, .undef, .undef, .undef, .undef, .undef, .undef], []⟩ = f64_N k (fun y0 => retF y0) p1 :=
  (f64_e_mem k retF p1).trans (by rw [show (fun n5 p6 => f64_w1A k retF p1 n5 p6) = (fun n5 p6 => f64_w1N k (fun y0 => retF y0) p1 n5 p6) from funext fun n5 => funext fun p6 => f64_w1_eq k retF p1 n5 p6]; rfl)

noncomputable def G64 : Nat → PV → (PV → R) → R
  | 0, _, _ => none
  | k + 1, p1, ret0 => f64_N k  ret0 p1
theorem S64 : ∀ k, Snd Try.prog 64 f64_I f64_O (fun x ret => G64 k x (fun y0 => ret y0))
  | 0 => snd_none
  | k + 1 => snd_step (E := f64_E k ) rfl laidOut noNums orc0_ok (f := 64) (fn := Try.f64) (code := f64_code) Try.func64 (by kernel_rfl) (drawsOk_of laidOut orc0_ok mixed (by kernel_rfl)) f64_un f64_un_ok [] (fun _ => rfl)
      (fun x ret => f64_eq k  ret x)

/- catchpole/catchpolelaw10.ch -/
noncomputable def f28_I : PV → List SV × Obs := fun x => ([.val 43 x], [])
noncomputable def f28_D : List SV → Obs → Option (PV)
  | [.val 43 p1], [] => some p1
  | _, _ => none
theorem f28_D_ok (args : List SV) (B : Obs) (x : PV) (h : f28_D args B = some x) : f28_I x = (args, B) := by
  unfold f28_D at h
  split at h
  · injection h with h; subst h; rfl
  · cases h
noncomputable def f28_O : PV → Out := (fun y => ([.val 27 y], []))
noncomputable def f28_un : Out → Option (PV)
  | ([.val 27 y0], []) => some y0
  | _ => none
theorem f28_un_ok (o : Out) (y : PV) (h : f28_un o = some y) : o = f28_O y := by
  unfold f28_un at h
  split at h
  · injection h with h; subst h; rfl
  · cases h
noncomputable def f28_msk : Nat → Option (List Nat) := fun key =>  none
noncomputable def f28_C (c64 : PV → (PV → R) → R) : Oracle := orc 64 f64_D f64_O (fun x ret => c64 x (fun y0 => ret y0)) <| orc0
noncomputable def f28_E (k : Nat) (c64 : PV → (PV → R) → R) : Env := { P := Try.prog, nilOwn := fun d => false, fldOwn := fun d i => false, ownPar := ownPars, ownRet := false, mask := f28_msk, fuel := k, C := f28_C c64 }
noncomputable def f28_code : Code := Try.f28.body.getD .skip
noncomputable def f28_e (c64 : PV → (PV → R) → R) (ret0 : PV → R) (p1 : PV) : R :=
  c64 p1 fun p2 =>
  ret0 (PV.agg [(PV.int 2), p2, (PV.int 0), (PV.list [])])

theorem f28_e_mem (k : Nat) (c64 : PV → (PV → R) → R) (retF : PV → R) (p1 : PV) : exec (f28_E k c64) f28_code (endK (f28_E k c64) Try.f28 [] f28_un retF) ⟨[.val 43 p1, .undef, .undef, .undef, .undef, .undef], []⟩ = f28_e c64 (fun y0 => retF y0) p1 := by kernel_rfl

noncomputable def f28_N (k : Nat) (c64 : PV → (PV → R) → R) (ret0 : PV → R) (p1 : PV) : R :=
  f28_e c64 ret0 p1
theorem f28_eq (k : Nat) (c64 : PV → (PV → R) → R) (retF : PV → R) (p1 : PV) : exec (f28_E k c64) f28_code (endK (f28_E k c64) Try.f28 [] f28_un retF) ⟨[.val 43 p1, .undef, .undef, .undef, .undef, .undef], []⟩ = f28_N k c64 (fun y0 => retF y0) p1 :=
  (f28_e_mem k c64 retF p1)

noncomputable def G28 : Nat → PV → (PV → R) → R
  | 0, _, _ => none
  | k + 1, p1, ret0 => f28_N k (G64 k) ret0 p1
theorem S28 : ∀ k, Snd Try.prog 28 f28_I f28_O (fun x ret => G28 k x (fun y0 => ret y0))
  | 0 => snd_none
  | k + 1 => snd_step (E := f28_E k (G64 k)) rfl laidOut noNums (orc_ok (S64 k).o f64_D_ok orc0_ok) (f := 28) (fn := Try.f28) (code := f28_code) Try.func28 (by kernel_rfl) (drawsOk_of laidOut (orc_ok (S64 k).o f64_D_ok orc0_ok) mixed (by kernel_rfl)) f28_un f28_un_ok [] (fun _ => rfl)
      (fun x ret => f28_eq k (G64 k) ret x)

/- catchpole/catchpolelaw10.seq -/
noncomputable def f17_I : PV × PV → List SV × Obs := fun x => ([.val 27 x.1, .val 27 x.2], [])
noncomputable def f17_D : List SV → Obs → Option (PV × PV)
  | [.val 27 p1, .val 27 p2], [] => some (p1, p2)
  | _, _ => none
theorem f17_D_ok (args : List SV) (B : Obs) (x : PV × PV) (h : f17_D args B = some x) : f17_I x = (args, B) := by
  unfold f17_D at h
  split at h
  · injection h with h; subst h; rfl
  · cases h
noncomputable def f17_O : PV → Out := (fun y => ([.val 27 y], []))
noncomputable def f17_un : Out → Option (PV)
  | ([.val 27 y0], []) => some y0
  | _ => none
theorem f17_un_ok (o : Out) (y : PV) (h : f17_un o = some y) : o = f17_O y := by
  unfold f17_un at h
  split at h
  · injection h with h; subst h; rfl
  · cases h
noncomputable def f17_msk : Nat → Option (List Nat) := fun key =>  none
noncomputable def f17_C : Oracle := orc0
noncomputable def f17_E (k : Nat) : Env := { P := Try.prog, nilOwn := fun d => false, fldOwn := fun d i => false, ownPar := ownPars, ownRet := false, mask := f17_msk, fuel := k, C := f17_C }
noncomputable def f17_code : Code := Try.f17.body.getD .skip
noncomputable def f17_e (ret0 : PV → R) (p1 : PV) (p2 : PV) : R :=
  ret0 (PV.agg [(PV.int 3), (PV.agg [(PV.int 0), (PV.int 0), (PV.int 0), (PV.int 0)]), (PV.int 0), (PV.list [p1, p2])])

theorem f17_e_mem (k : Nat) (retF : PV → R) (p1 : PV) (p2 : PV) : exec (f17_E k) f17_code (endK (f17_E k) Try.f17 [] f17_un retF) ⟨[.val 27 p1, .val 27 p2, .undef, .undef, .undef, .undef, .undef, .undef, .undef], []⟩ = f17_e (fun y0 => retF y0) p1 p2 := by kernel_rfl

noncomputable def f17_N (k : Nat) (ret0 : PV → R) (p1 : PV) (p2 : PV) : R :=
  f17_e ret0 p1 p2
theorem f17_eq (k : Nat) (retF : PV → R) (p1 : PV) (p2 : PV) : exec (f17_E k) f17_code (endK (f17_E k) Try.f17 [] f17_un retF) ⟨[.val 27 p1, .val 27 p2, .undef, .undef, .undef, .undef, .undef, .undef, .undef], []⟩ = f17_N k (fun y0 => retF y0) p1 p2 :=
  (f17_e_mem k retF p1 p2)

noncomputable def G17 : Nat → PV → PV → (PV → R) → R
  | 0, _, _, _ => none
  | k + 1, p1, p2, ret0 => f17_N k  ret0 p1 p2
theorem S17 : ∀ k, Snd Try.prog 17 f17_I f17_O (fun x ret => G17 k x.1 x.2 (fun y0 => ret y0))
  | 0 => snd_none
  | k + 1 => snd_step (E := f17_E k ) rfl laidOut noNums orc0_ok (f := 17) (fn := Try.f17) (code := f17_code) Try.func17 (by kernel_rfl) (drawsOk_of laidOut orc0_ok mixed (by kernel_rfl)) f17_un f17_un_ok [] (fun _ => rfl)
      (fun x ret => f17_eq k  ret x.1 x.2)

/- catchpole/core.Size -/
noncomputable def f56_I : PV → List SV × Obs := fun x => ([.val 27 x], [])
noncomputable def f56_D : List SV → Obs → Option (PV)
  | [.val 27 p1], [] => some p1
  | _, _ => none
theorem f56_D_ok (args : List SV) (B : Obs) (x : PV) (h : f56_D args B = some x) : f56_I x = (args, B) := by
  unfold f56_D at h
  split at h
  · injection h with h; subst h; rfl
  · cases h
noncomputable def f56_O : Int → Out := (fun y => ([.int .i64 y], []))
noncomputable def f56_un : Out → Option (Int)
  | ([.int .i64 y0], []) => some y0
  | _ => none
theorem f56_un_ok (o : Out) (y : Int) (h : f56_un o = some y) : o = f56_O y := by
  unfold f56_un at h
  split at h
  · injection h with h; subst h; rfl
  · cases h
noncomputable def f56_msk : Nat → Option (List Nat) := fun key => bif key == 9 then some [3, 7, 8, 9] else none
noncomputable def f56_C (c56 : PV → (Int → R) → R) : Oracle := orc 56 f56_D f56_O (fun x ret => c56 x (fun y0 => ret y0)) <| orc0
noncomputable def f56_E (k : Nat) (c56 : PV → (Int → R) → R) : Env := { P := Try.prog, nilOwn := fun d => false, fldOwn := fun d i => false, ownPar := ownPars, ownRet := false, mask := f56_msk, fuel := k, C := f56_C c56 }
noncomputable def f56_code : Code := Try.f56.body.getD .skip
noncomputable def f56_cw1 : Code := subC f56_code [1, 1, 0, 1, 0, 0]
noncomputable def f56_hw1_0 (p1 : PV) (n3 : Int) (n4 : Int) : St := ⟨[.dead, .dead, .dead, .int .i64 n3, .dead, .dead, .dead, .val 25 (PV.fld p1 3), .int .i64 (List.length (PV.els (PV.fld p1 3)) : Int), .int .i64 n4, .dead, .dead, .dead, .dead, .dead, .dead, .dead, .dead, .dead, .dead, .dead, .dead], []⟩
noncomputable def f56_w1A (k : Nat) (c56 : PV → (Int → R) → R) (retF : Int → R) (p1 : PV) (n3 : Int) (n4 : Int) : R := loopM (f56_E k c56) f56_cw1 (kont (f56_E k c56) f56_code [1, 1, 0, 1, 0] (endK (f56_E k c56) Try.f56 [] f56_un retF)) k (f56_hw1_0 p1 n3 n4)
noncomputable def f56_w1b0 (c56 : PV → (Int → R) → R) (ret0 : Int → R) (next_w1_0 : Int → Int → R) (p1 : PV) (n3 : Int) (n4 : Int) : R :=
  bif (decide (n4 < (List.length (PV.els (PV.fld p1 3)) : Int))) then
    bif (true && decide ((0 : Int) ≤ n4) && decide (n4 < (List.length (PV.els (PV.fld p1 3)) : Int))) then
      bif (decide ((100000 : Int) ≤ n3)) then
        ret0 (if (100000 : Int) < n3 then 100000 else n3)
      else c56 (List.getD (PV.els (PV.fld p1 3)) (n4).toNat PV.nil) fun n5 =>
      next_w1_0 (IntKind.wrap .i64 (n3 + n5)) (IntKind.wrap .i64 (n4 + (1 : Int)))
    else none
  else ret0 (if (100000 : Int) < n3 then 100000 else n3)

theorem f56_w1b0_mem (k : Nat) (c56 : PV → (Int → R) → R) (retF : Int → R) (NX_w1 : St → R) (p1 : PV) (n3 : Int) (n4 : Int) : exec (f56_E k c56) f56_cw1 (purgeK (f56_E k c56) f56_cw1 (loopK NX_w1 (kont (f56_E k c56) f56_code [1, 1, 0, 1, 0] (endK (f56_E k c56) Try.f56 [] f56_un retF)))) (f56_hw1_0 p1 n3 n4) = f56_w1b0 c56 (fun y0 => retF y0) (fun n3 n4 => NX_w1 (f56_hw1_0 p1 n3 n4)) p1 n3 n4 := by kernel_rfl

noncomputable def f56_w1b0N (k : Nat) (c56 : PV → (Int → R) → R) (ret0 : Int → R) (next_w1_0 : Int → Int → R) (p1 : PV) (n3 : Int) (n4 : Int) : R :=
  f56_w1b0 c56 ret0 next_w1_0 p1 n3 n4
theorem f56_w1b0_eq (k : Nat) (c56 : PV → (Int → R) → R) (retF : Int → R) (NX_w1 : St → R) (p1 : PV) (n3 : Int) (n4 : Int) : exec (f56_E k c56) f56_cw1 (purgeK (f56_E k c56) f56_cw1 (loopK NX_w1 (kont (f56_E k c56) f56_code [1, 1, 0, 1, 0] (endK (f56_E k c56) Try.f56 [] f56_un retF)))) (f56_hw1_0 p1 n3 n4) = f56_w1b0N k c56 (fun y0 => retF y0) (fun n3 n4 => NX_w1 (f56_hw1_0 p1 n3 n4)) p1 n3 n4 :=
  (f56_w1b0_mem k c56 retF NX_w1 p1 n3 n4)

noncomputable def f56_w1B (k : Nat) (c56 : PV → (Int → R) → R) (ret0 : Int → R) (p1 : PV) (nx : Int × Int → R) : Int × Int → R := (fun s => f56_w1b0N k c56 ret0 (fun n3 n4 => nx (n3, n4)) p1 s.1 s.2)
noncomputable def f56_w1N (k : Nat) (c56 : PV → (Int → R) → R) (ret0 : Int → R) (p1 : PV) (n3 : Int) (n4 : Int) : R := loopR (f56_w1B k c56 ret0 p1) k (n3, n4)
theorem f56_w1_eq (k : Nat) (c56 : PV → (Int → R) → R) (retF : Int → R) (p1 : PV) (n3 : Int) (n4 : Int) : f56_w1A k c56 retF p1 n3 n4 = f56_w1N k c56 (fun y0 => retF y0) p1 n3 n4 :=
  Eq.mp (by kernel_rfl) (loop_sim (E := (f56_E k c56)) (c := f56_cw1) (K := (kont (f56_E k c56) f56_code [1, 1, 0, 1, 0] (endK (f56_E k c56) Try.f56 [] f56_un retF))) (S := Int × Int) (fun s => f56_hw1_0 p1 s.1 s.2) (f56_w1B k c56 (fun y0 => retF y0) p1) (fun NX s => by
    exact Eq.mp (by kernel_rfl) (f56_w1b0_eq k c56 retF NX p1 s.1 s.2)) k (n3, n4))

noncomputable def f56_e (c56 : PV → (Int → R) → R) (ret0 : Int → R) (w1 : Int → Int → R) (p1 : PV) : R :=
  w1 1 0

theorem f56_e_mem (k : Nat) (c56 : PV → (Int → R) → R) (retF : Int → R) (p1 : PV) : exec (f56_E k c56) f56_code (endK (f56_E k c56) Try.f56 [] f56_un retF) ⟨[.val 27 p1, .undef, .undef, .undef, .undef, .undef, .undef, .undef, .undef, .undef, .undef, .undef, .undef, .undef, .undef, .undef, .undef, .undef, .undef, .undef, .undef, .undef], []⟩ = f56_e c56 (fun y0 => retF y0) (fun n3 n4 => f56_w1A k c56 retF p1 n3 n4) p1 := by kernel_rfl

noncomputable def f56_N (k : Nat) (c56 : PV → (Int → R) → R) (ret0 : Int → R) (p1 : PV) : R :=
  f56_e c56 ret0 (fun n3 n4 => f56_w1N k c56 ret0 p1 n3 n4) p1
theorem f56_eq (k : Nat) (c56 : PV → (Int → R) → R) (retF : Int → R) (p1 : PV) : exec (f56_E k c56) f56_code (endK (f56_E k c56) Try.f56 [] f56_un retF) ⟨[.val 27 p1, .undef, .undef, .undef, .undef, .undef, .undef, .undef, .undef, .undef, .undef, .undef, .undef, .undef, .undef, .undef, .undef, .undef, .undef, .undef, .undef, .undef], []⟩ = f56_N k c56 (fun y0 => retF y0) p1 :=
  (f56_e_mem k c56 retF p1).trans (by rw [show (fun n3 n4 => f56_w1A k c56 retF p1 n3 n4) = (fun n3 n4 => f56_w1N k c56 (fun y0 => retF y0) p1 n3 n4) from funext fun n3 => funext fun n4 => f56_w1_eq k c56 retF p1 n3 n4]; rfl)

noncomputable def G56 : Nat → PV → (Int → R) → R
  | 0, _, _ => none
  | k + 1, p1, ret0 => f56_N k (G56 k) ret0 p1
theorem S56 : ∀ k, Snd Try.prog 56 f56_I f56_O (fun x ret => G56 k x (fun y0 => ret y0))
  | 0 => snd_none
  | k + 1 => snd_step (E := f56_E k (G56 k)) rfl laidOut noNums (orc_ok (S56 k).o f56_D_ok orc0_ok) (f := 56) (fn := Try.f56) (code := f56_code) Try.func56 (by kernel_rfl) (drawsOk_of laidOut (orc_ok (S56 k).o f56_D_ok orc0_ok) mixed (by kernel_rfl)) f56_un f56_un_ok [] (fun _ => rfl)
      (fun x ret => f56_eq k (G56 k) ret x)

/- catchpole/core.kids -/
noncomputable def f75_I : Int → List SV × Obs := fun x => ([.int .i64 x], [])
noncomputable def f75_D : List SV → Obs → Option (Int)
  | [.int .i64 n1], [] => some n1
  | _, _ => none
theorem f75_D_ok (args : List SV) (B : Obs) (x : Int) (h : f75_D args B = some x) : f75_I x = (args, B) := by
  unfold f75_D at h
  split at h
  · injection h with h; subst h; rfl
  · cases h
noncomputable def f75_O : Int → Out := (fun y => ([.int .i64 y], []))
noncomputable def f75_un : Out → Option (Int)
  | ([.int .i64 y0], []) => some y0
  | _ => none
theorem f75_un_ok (o : Out) (y : Int) (h : f75_un o = some y) : o = f75_O y := by
  unfold f75_un at h
  split at h
  · injection h with h; subst h; rfl
  · cases h
noncomputable def f75_msk : Nat → Option (List Nat) := fun key =>  none
noncomputable def f75_C : Oracle := orc0
noncomputable def f75_E (k : Nat) : Env := { P := Try.prog, nilOwn := fun d => false, fldOwn := fun d i => false, ownPar := ownPars, ownRet := false, mask := f75_msk, fuel := k, C := f75_C }
noncomputable def f75_code : Code := Try.f75.body.getD .skip
noncomputable def f75_e (ret0 : Int → R) (n1 : Int) : R :=
  bif (decide (n1 = (0 : Int))) then
    ret0 0
  else bif (decide (n1 = (1 : Int))) then
    ret0 0
  else bif (decide (n1 = (2 : Int))) then
    ret0 0
  else bif (decide (n1 = (3 : Int))) then
    ret0 2
  else bif (decide (n1 = (4 : Int))) then
    ret0 2
  else bif (decide (n1 = (5 : Int))) then
    ret0 1
  else bif (decide (n1 = (6 : Int))) then
    ret0 1
  else bif (decide (n1 = (7 : Int))) then
    ret0 1
  else ret0 (-1)

theorem f75_e_mem (k : Nat) (retF : Int → R) (n1 : Int) : exec (f75_E k) f75_code (endK (f75_E k) Try.f75 [] f75_un retF) ⟨[.int .i64 n1, .undef, .undef, .undef, .undef, .undef, .undef, .undef, .undef, .undef, .undef, .undef, .undef, .undef, .undef], []⟩ = f75_e (fun y0 => retF y0) n1 := by kernel_rfl

noncomputable def f75_N (k : Nat) (ret0 : Int → R) (n1 : Int) : R :=
  f75_e ret0 n1
theorem f75_eq (k : Nat) (retF : Int → R) (n1 : Int) : exec (f75_E k) f75_code (endK (f75_E k) Try.f75 [] f75_un retF) ⟨[.int .i64 n1, .undef, .undef, .undef, .undef, .undef, .undef, .undef, .undef, .undef, .undef, .undef, .undef, .undef, .undef], []⟩ = f75_N k (fun y0 => retF y0) n1 :=
  (f75_e_mem k retF n1)

noncomputable def G75 : Nat → Int → (Int → R) → R
  | 0, _, _ => none
  | k + 1, n1, ret0 => f75_N k  ret0 n1
theorem S75 : ∀ k, Snd Try.prog 75 f75_I f75_O (fun x ret => G75 k x (fun y0 => ret y0))
  | 0 => snd_none
  | k + 1 => snd_step (E := f75_E k ) rfl laidOut noNums orc0_ok (f := 75) (fn := Try.f75) (code := f75_code) Try.func75 (by kernel_rfl) (drawsOk_of laidOut orc0_ok mixed (by kernel_rfl)) f75_un f75_un_ok [] (fun _ => rfl)
      (fun x ret => f75_eq k  ret x)

/- catchpole/core.good$1 -/
noncomputable def f77_I : PV × Int → List SV × Obs := fun x => ([.val 27 x.1, .ptr 4000000 []], [(4000000, .box 3 (.int .i64 x.2))])
noncomputable def f77_D : List SV → Obs → Option (PV × Int)
  | [.val 27 p1, .ptr 4000000 []], [(4000000, .box 3 (.int .i64 n2))] => some (p1, n2)
  | _, _ => none
theorem f77_D_ok (args : List SV) (B : Obs) (x : PV × Int) (h : f77_D args B = some x) : f77_I x = (args, B) := by
  unfold f77_D at h
  split at h
  · injection h with h; subst h; rfl
  · cases h
noncomputable def f77_O : Bool × Int → Out := (fun y => ([.bool y.1], [(4000000, .box 3 (.int .i64 y.2))]))
noncomputable def f77_un : Out → Option (Bool × Int)
  | ([.bool y0], [(4000000, .box 3 (.int .i64 y1))]) => some (y0, y1)
  | _ => none
theorem f77_un_ok (o : Out) (y : Bool × Int) (h : f77_un o = some y) : o = f77_O y := by
  unfold f77_un at h
  split at h
  · injection h with h; subst h; rfl
  · cases h
/- slices.IndexFunc[[]catchpole/core.Core,catchpole/core.Core] -/
noncomputable def f90_I : PV × Int → List SV × Obs := fun x => ([.val 25 x.1, .fn 77 [.ptr 4001000 []]], [(4001000, .box 3 (.int .i64 x.2))])
noncomputable def f90_D : List SV → Obs → Option (PV × Int)
  | [.val 25 p1, .fn 77 [.ptr 4001000 []]], [(4001000, .box 3 (.int .i64 n2))] => some (p1, n2)
  | _, _ => none
theorem f90_D_ok (args : List SV) (B : Obs) (x : PV × Int) (h : f90_D args B = some x) : f90_I x = (args, B) := by
  unfold f90_D at h
  split at h
  · injection h with h; subst h; rfl
  · cases h
noncomputable def f90_O : Int × Int → Out := (fun y => ([.int .i64 y.1], [(4001000, .box 3 (.int .i64 y.2))]))
noncomputable def f90_un : Out → Option (Int × Int)
  | ([.int .i64 y0], [(4001000, .box 3 (.int .i64 y1))]) => some (y0, y1)
  | _ => none
theorem f90_un_ok (o : Out) (y : Int × Int) (h : f90_un o = some y) : o = f90_O y := by
  unfold f90_un at h
  split at h
  · injection h with h; subst h; rfl
  · cases h
/- slices.ContainsFunc[[]catchpole/core.Core,catchpole/core.Core] -/
noncomputable def f76_I : PV × Int → List SV × Obs := fun x => ([.val 25 x.1, .fn 77 [.ptr 4001000 []]], [(4001000, .box 3 (.int .i64 x.2))])
noncomputable def f76_D : List SV → Obs → Option (PV × Int)
  | [.val 25 p1, .fn 77 [.ptr 4001000 []]], [(4001000, .box 3 (.int .i64 n2))] => some (p1, n2)
  | _, _ => none
theorem f76_D_ok (args : List SV) (B : Obs) (x : PV × Int) (h : f76_D args B = some x) : f76_I x = (args, B) := by
  unfold f76_D at h
  split at h
  · injection h with h; subst h; rfl
  · cases h
noncomputable def f76_O : Bool × Int → Out := (fun y => ([.bool y.1], [(4001000, .box 3 (.int .i64 y.2))]))
noncomputable def f76_un : Out → Option (Bool × Int)
  | ([.bool y0], [(4001000, .box 3 (.int .i64 y1))]) => some (y0, y1)
  | _ => none
theorem f76_un_ok (o : Out) (y : Bool × Int) (h : f76_un o = some y) : o = f76_O y := by
  unfold f76_un at h
  split at h
  · injection h with h; subst h; rfl
  · cases h
/- catchpole/core.good -/
noncomputable def f57_I : PV × Int → List SV × Obs := fun x => ([.val 27 x.1, .int .i64 x.2], [])
noncomputable def f57_D : List SV → Obs → Option (PV × Int)
  | [.val 27 p1, .int .i64 n2], [] => some (p1, n2)
  | _, _ => none
theorem f57_D_ok (args : List SV) (B : Obs) (x : PV × Int) (h : f57_D args B = some x) : f57_I x = (args, B) := by
  unfold f57_D at h
  split at h
  · injection h with h; subst h; rfl
  · cases h
noncomputable def f57_O : Bool → Out := (fun y => ([.bool y], []))
noncomputable def f57_un : Out → Option (Bool)
  | ([.bool y0], []) => some y0
  | _ => none
theorem f57_un_ok (o : Out) (y : Bool) (h : f57_un o = some y) : o = f57_O y := by
  unfold f57_un at h
  split at h
  · injection h with h; subst h; rfl
  · cases h
noncomputable def f77_msk : Nat → Option (List Nat) := fun key =>  none
noncomputable def f77_C (c57 : PV → Int → (Bool → R) → R) : Oracle := orc 57 f57_D f57_O (fun x ret => c57 x.1 x.2 (fun y0 => ret y0)) <| orc0
noncomputable def f77_E (k : Nat) (c57 : PV → Int → (Bool → R) → R) : Env := { P := Try.prog, nilOwn := fun d => false, fldOwn := fun d i => false, ownPar := ownPars, ownRet := false, mask := f77_msk, fuel := k, C := f77_C c57 }
noncomputable def f77_code : Code := Try.f77.body.getD .skip
noncomputable def f77_e (c57 : PV → Int → (Bool → R) → R) (ret0 : Bool → Int → R) (p1 : PV) (n2 : Int) : R :=
  c57 p1 (IntKind.wrap .i64 (n2 - (1 : Int))) fun b3 =>
  ret0 (!b3) n2

theorem f77_e_mem (k : Nat) (c57 : PV → Int → (Bool → R) → R) (retF : Bool × Int → R) (p1 : PV) (n2 : Int) : exec (f77_E k c57) f77_code (endK (f77_E k c57) Try.f77 [4000000] f77_un retF) ⟨[.val 27 p1, .ptr 4000000 [], .undef, .undef, .undef, .undef, .undef, .undef, .undef], [(4000000, .box 3 (.int .i64 n2))]⟩ = f77_e c57 (fun y0 y1 => retF (y0, y1)) p1 n2 := by kernel_rfl

noncomputable def f77_N (k : Nat) (c57 : PV → Int → (Bool → R) → R) (ret0 : Bool → Int → R) (p1 : PV) (n2 : Int) : R :=
  f77_e c57 ret0 p1 n2
theorem f77_eq (k : Nat) (c57 : PV → Int → (Bool → R) → R) (retF : Bool × Int → R) (p1 : PV) (n2 : Int) : exec (f77_E k c57) f77_code (endK (f77_E k c57) Try.f77 [4000000] f77_un retF) ⟨[.val 27 p1, .ptr 4000000 [], .undef, .undef, .undef, .undef, .undef, .undef, .undef], [(4000000, .box 3 (.int .i64 n2))]⟩ = f77_N k c57 (fun y0 y1 => retF (y0, y1)) p1 n2 :=
  (f77_e_mem k c57 retF p1 n2)

noncomputable def f90_msk : Nat → Option (List Nat) := fun key => bif key == 6 then some [0, 1, 7, 8] else none
noncomputable def f90_C (c77 : PV → Int → (Bool → Int → R) → R) : Oracle := orc 77 f77_D f77_O (fun x ret => c77 x.1 x.2 (fun y0 y1 => ret (y0, y1))) <| orc0
noncomputable def f90_E (k : Nat) (c77 : PV → Int → (Bool → Int → R) → R) : Env := { P := Try.prog, nilOwn := fun d => false, fldOwn := fun d i => false, ownPar := ownPars, ownRet := false, mask := f90_msk, fuel := k, C := f90_C c77 }
noncomputable def f90_code : Code := Try.f90.body.getD .skip
noncomputable def f90_cw1 : Code := subC f90_code [1, 0, 1, 0, 0]
noncomputable def f90_hw1_0 (p1 : PV) (n5 : Int) (n6 : Int) : St := ⟨[.val 25 p1, .fn 77 [.ptr 4001000 []], .dead, .dead, .dead, .dead, .dead, .int .i64 (List.length (PV.els p1) : Int), .int .i64 n5, .dead, .dead, .dead, .dead, .dead, .dead, .dead, .dead, .dead, .dead], [(4001000, .box 3 (.int .i64 n6))]⟩
noncomputable def f90_w1A (k : Nat) (c77 : PV → Int → (Bool → Int → R) → R) (retF : Int × Int → R) (p1 : PV) (n5 : Int) (n6 : Int) : R := loopM (f90_E k c77) f90_cw1 (kont (f90_E k c77) f90_code [1, 0, 1, 0] (endK (f90_E k c77) Try.f90 [4001000] f90_un retF)) k (f90_hw1_0 p1 n5 n6)
noncomputable def f90_w1b0 (c77 : PV → Int → (Bool → Int → R) → R) (ret0 : Int → Int → R) (next_w1_0 : Int → Int → R) (p1 : PV) (n5 : Int) (n6 : Int) : R :=
  bif (decide (n5 < (List.length (PV.els p1) : Int))) then
    bif (true && decide ((0 : Int) ≤ n5) && decide (n5 < (List.length (PV.els p1) : Int))) then
      c77 (List.getD (PV.els p1) (n5).toNat PV.nil) n6 fun b7 n8 =>
      bif b7 then
        ret0 n5 n8
      else next_w1_0 (IntKind.wrap .i64 (n5 + (1 : Int))) n8
    else none
  else ret0 (-1) n6

theorem f90_w1b0_mem (k : Nat) (c77 : PV → Int → (Bool → Int → R) → R) (retF : Int × Int → R) (NX_w1 : St → R) (p1 : PV) (n5 : Int) (n6 : Int) : exec (f90_E k c77) f90_cw1 (purgeK (f90_E k c77) f90_cw1 (loopK NX_w1 (kont (f90_E k c77) f90_code [1, 0, 1, 0] (endK (f90_E k c77) Try.f90 [4001000] f90_un retF)))) (f90_hw1_0 p1 n5 n6) = f90_w1b0 c77 (fun y0 y1 => retF (y0, y1)) (fun n5 n6 => NX_w1 (f90_hw1_0 p1 n5 n6)) p1 n5 n6 := by kernel_rfl

noncomputable def f90_w1b0N (k : Nat) (c77 : PV → Int → (Bool → Int → R) → R) (ret0 : Int → Int → R) (next_w1_0 : Int → Int → R) (p1 : PV) (n5 : Int) (n6 : Int) : R :=
  f90_w1b0 c77 ret0 next_w1_0 p1 n5 n6
theorem f90_w1b0_eq (k : Nat) (c77 : PV → Int → (Bool → Int → R) → R) (retF : Int × Int → R) (NX_w1 : St → R) (p1 : PV) (n5 : Int) (n6 : Int) : exec (f90_E k c77) f90_cw1 (purgeK (f90_E k c77) f90_cw1 (loopK NX_w1 (kont (f90_E k c77) f90_code [1, 0, 1, 0] (endK (f90_E k c77) Try.f90 [4001000] f90_un retF)))) (f90_hw1_0 p1 n5 n6) = f90_w1b0N k c77 (fun y0 y1 => retF (y0, y1)) (fun n5 n6 => NX_w1 (f90_hw1_0 p1 n5 n6)) p1 n5 n6 :=
  (f90_w1b0_mem k c77 retF NX_w1 p1 n5 n6)

noncomputable def f90_w1B (k : Nat) (c77 : PV → Int → (Bool → Int → R) → R) (ret0 : Int → Int → R) (p1 : PV) (nx : Int × Int → R) : Int × Int → R := (fun s => f90_w1b0N k c77 ret0 (fun n5 n6 => nx (n5, n6)) p1 s.1 s.2)
noncomputable def f90_w1N (k : Nat) (c77 : PV → Int → (Bool → Int → R) → R) (ret0 : Int → Int → R) (p1 : PV) (n5 : Int) (n6 : Int) : R := loopR (f90_w1B k c77 ret0 p1) k (n5, n6)
theorem f90_w1_eq (k : Nat) (c77 : PV → Int → (Bool → Int → R) → R) (retF : Int × Int → R) (p1 : PV) (n5 : Int) (n6 : Int) : f90_w1A k c77 retF p1 n5 n6 = f90_w1N k c77 (fun y0 y1 => retF (y0, y1)) p1 n5 n6 :=
  Eq.mp (by kernel_rfl) (loop_sim (E := (f90_E k c77)) (c := f90_cw1) (K := (kont (f90_E k c77) f90_code [1, 0, 1, 0] (endK (f90_E k c77) Try.f90 [4001000] f90_un retF))) (S := Int × Int) (fun s => f90_hw1_0 p1 s.1 s.2) (f90_w1B k c77 (fun y0 y1 => retF (y0, y1)) p1) (fun NX s => by
    exact Eq.mp (by kernel_rfl) (f90_w1b0_eq k c77 retF NX p1 s.1 s.2)) k (n5, n6))

noncomputable def f90_e (c77 : PV → Int → (Bool → Int → R) → R) (ret0 : Int → Int → R) (w1 : Int → Int → R) (p1 : PV) (n2 : Int) : R :=
  w1 0 n2

theorem f90_e_mem (k : Nat) (c77 : PV → Int → (Bool → Int → R) → R) (retF : Int × Int → R) (p1 : PV) (n2 : Int) : exec (f90_E k c77) f90_code (endK (f90_E k c77) Try.f90 [4001000] f90_un retF) ⟨[.val 25 p1, .fn 77 [.ptr 4001000 []], .undef, .undef, .undef, .undef, .undef, .undef, .undef, .undef, .undef, .undef, .undef, .undef, .undef, .undef, .undef, .undef, .undef], [(4001000, .box 3 (.int .i64 n2))]⟩ = f90_e c77 (fun y0 y1 => retF (y0, y1)) (fun n5 n6 => f90_w1A k c77 retF p1 n5 n6) p1 n2 := by kernel_rfl

noncomputable def f90_N (k : Nat) (c77 : PV → Int → (Bool → Int → R) → R) (ret0 : Int → Int → R) (p1 : PV) (n2 : Int) : R :=
  f90_e c77 ret0 (fun n5 n6 => f90_w1N k c77 ret0 p1 n5 n6) p1 n2
theorem f90_eq (k : Nat) (c77 : PV → Int → (Bool → Int → R) → R) (retF : Int × Int → R) (p1 : PV) (n2 : Int) : exec (f90_E k c77) f90_code (endK (f90_E k c77) Try.f90 [4001000] f90_un retF) ⟨[.val 25 p1, .fn 77 [.ptr 4001000 []], .undef, .undef, .undef, .undef, .undef, .undef, .undef, .undef, .undef, .undef, .undef, .undef, .undef, .undef, .undef, .undef, .undef], [(4001000, .box 3 (.int .i64 n2))]⟩ = f90_N k c77 (fun y0 y1 => retF (y0, y1)) p1 n2 :=
  (f90_e_mem k c77 retF p1 n2).trans (by rw [show (fun n5 n6 => f90_w1A k c77 retF p1 n5 n6) = (fun n5 n6 => f90_w1N k c77 (fun y0 y1 => retF (y0, y1)) p1 n5 n6) from funext fun n5 => funext fun n6 => f90_w1_eq k c77 retF p1 n5 n6]; rfl)

noncomputable def f76_msk : Nat → Option (List Nat) := fun key =>  none
noncomputable def f76_C (c90 : PV → Int → (Int → Int → R) → R) : Oracle := orc 90 f90_D f90_O (fun x ret => c90 x.1 x.2 (fun y0 y1 => ret (y0, y1))) <| orc0
noncomputable def f76_E (k : Nat) (c90 : PV → Int → (Int → Int → R) → R) : Env := { P := Try.prog, nilOwn := fun d => false, fldOwn := fun d i => false, ownPar := ownPars, ownRet := false, mask := f76_msk, fuel := k, C := f76_C c90 }
noncomputable def f76_code : Code := Try.f76.body.getD .skip
noncomputable def f76_e (c90 : PV → Int → (Int → Int → R) → R) (ret0 : Bool → Int → R) (p1 : PV) (n2 : Int) : R :=
  c90 p1 n2 fun n3 n4 =>
  ret0 (decide ((0 : Int) ≤ n3)) n4

theorem f76_e_mem (k : Nat) (c90 : PV → Int → (Int → Int → R) → R) (retF : Bool × Int → R) (p1 : PV) (n2 : Int) : exec (f76_E k c90) f76_code (endK (f76_E k c90) Try.f76 [4001000] f76_un retF) ⟨[.val 25 p1, .fn 77 [.ptr 4001000 []], .undef, .undef, .undef, .undef, .undef, .undef, .undef], [(4001000, .box 3 (.int .i64 n2))]⟩ = f76_e c90 (fun y0 y1 => retF (y0, y1)) p1 n2 := by kernel_rfl

noncomputable def f76_N (k : Nat) (c90 : PV → Int → (Int → Int → R) → R) (ret0 : Bool → Int → R) (p1 : PV) (n2 : Int) : R :=
  f76_e c90 ret0 p1 n2
theorem f76_eq (k : Nat) (c90 : PV → Int → (Int → Int → R) → R) (retF : Bool × Int → R) (p1 : PV) (n2 : Int) : exec (f76_E k c90) f76_code (endK (f76_E k c90) Try.f76 [4001000] f76_un retF) ⟨[.val 25 p1, .fn 77 [.ptr 4001000 []], .undef, .undef, .undef, .undef, .undef, .undef, .undef], [(4001000, .box 3 (.int .i64 n2))]⟩ = f76_N k c90 (fun y0 y1 => retF (y0, y1)) p1 n2 :=
  (f76_e_mem k c90 retF p1 n2)

noncomputable def f57_msk : Nat → Option (List Nat) := fun key =>  none
noncomputable def f57_C (c75 : Int → (Int → R) → R) (c76 : PV → Int → (Bool → Int → R) → R) : Oracle := orc 75 f75_D f75_O (fun x ret => c75 x (fun y0 => ret y0)) <| orc 76 f76_D f76_O (fun x ret => c76 x.1 x.2 (fun y0 y1 => ret (y0, y1))) <| orc0
noncomputable def f57_E (k : Nat) (c75 : Int → (Int → R) → R) (c76 : PV → Int → (Bool → Int → R) → R) : Env := { P := Try.prog, nilOwn := fun d => false, fldOwn := fun d i => false, ownPar := ownPars, ownRet := false, mask := f57_msk, fuel := k, C := f57_C c75 c76 }
noncomputable def f57_code : Code := Try.f57.body.getD .skip
noncomputable def f57_e (c75 : Int → (Int → R) → R) (c76 : PV → Int → (Bool → Int → R) → R) (ret0 : Bool → R) (p1 : PV) (n2 : Int) : R :=
  bif ((decide (n2 < (1 : Int))) == false) then
    c75 (PV.num (PV.fld p1 0)) fun n3 =>
    bif ((!(decide ((List.length (PV.els (PV.fld p1 3)) : Int) = n3))) == false) then
      bif ((!(decide ((PV.num (PV.fld p1 0)) = (2 : Int)))) == true) then
        bif (!(PV.beq (PV.fld p1 1) (PV.agg [(PV.int 0), (PV.int 0), (PV.int 0), (PV.int 0)]))) then
          ret0 false
        else bif ((decide ((PV.num (PV.fld p1 0)) = (6 : Int))) == true) then
          bif ((decide ((PV.num (PV.fld p1 2)) < (1 : Int))) == false) then
            bif ((decide ((32 : Int) < (PV.num (PV.fld p1 2)))) == false) then
              bif ((!(decide ((PV.num (PV.fld p1 0)) = (6 : Int)))) == true) then
                bif (!(decide ((PV.num (PV.fld p1 2)) = (0 : Int)))) then
                  ret0 false
                else c76 (PV.fld p1 3) n2 fun b4 n5 =>
                ret0 (!b4)
              else c76 (PV.fld p1 3) n2 fun b6 n7 =>
              ret0 (!b6)
            else ret0 false
          else ret0 false
        else bif ((!(decide ((PV.num (PV.fld p1 0)) = (6 : Int)))) == true) then
          bif (!(decide ((PV.num (PV.fld p1 2)) = (0 : Int)))) then
            ret0 false
          else c76 (PV.fld p1 3) n2 fun b8 n9 =>
          ret0 (!b8)
        else c76 (PV.fld p1 3) n2 fun b10 n11 =>
        ret0 (!b10)
      else bif ((decide ((PV.num (PV.fld p1 0)) = (6 : Int))) == true) then
        bif ((decide ((PV.num (PV.fld p1 2)) < (1 : Int))) == false) then
          bif ((decide ((32 : Int) < (PV.num (PV.fld p1 2)))) == false) then
            bif ((!(decide ((PV.num (PV.fld p1 0)) = (6 : Int)))) == true) then
              bif (!(decide ((PV.num (PV.fld p1 2)) = (0 : Int)))) then
                ret0 false
              else c76 (PV.fld p1 3) n2 fun b12 n13 =>
              ret0 (!b12)
            else c76 (PV.fld p1 3) n2 fun b14 n15 =>
            ret0 (!b14)
          else ret0 false
        else ret0 false
      else bif ((!(decide ((PV.num (PV.fld p1 0)) = (6 : Int)))) == true) then
        bif (!(decide ((PV.num (PV.fld p1 2)) = (0 : Int)))) then
          ret0 false
        else c76 (PV.fld p1 3) n2 fun b16 n17 =>
        ret0 (!b16)
      else c76 (PV.fld p1 3) n2 fun b18 n19 =>
      ret0 (!b18)
    else ret0 false
  else ret0 false

theorem f57_e_mem (k : Nat) (c75 : Int → (Int → R) → R) (c76 : PV → Int → (Bool → Int → R) → R) (retF : Bool → R) (p1 : PV) (n2 : Int) : exec (f57_E k c75 c76) f57_code (endK (f57_E k c75 c76) Try.f57 [] f57_un retF) ⟨[.val 27 p1, .int .i64 n2, .undef, .undef, .undef, .undef, .undef, .undef, .undef, .undef, .undef, .undef, .undef, .undef, .undef, .undef, .undef, .undef, .undef, .undef, .undef, .undef, .undef, .undef, .undef, .undef, .undef, .undef, .undef, .undef, .undef, .undef, .undef, .undef, .undef, .undef, .undef, .undef, .undef, .undef, .undef, .undef, .undef, .undef, .undef, .undef, .undef, .undef, .undef, .undef, .undef, .undef, .undef, .undef, .undef], []⟩ = f57_e c75 c76 (fun y0 => retF y0) p1 n2 := by kernel_rfl

noncomputable def f57_N (k : Nat) (c75 : Int → (Int → R) → R) (c76 : PV → Int → (Bool → Int → R) → R) (ret0 : Bool → R) (p1 : PV) (n2 : Int) : R :=
  f57_e c75 c76 ret0 p1 n2
theorem f57_eq (k : Nat) (c75 : Int → (Int → R) → R) (c76 : PV → Int → (Bool → Int → R) → R) (retF : Bool → R) (p1 : PV) (n2 : Int) : exec (f57_E k c75 c76) f57_code (endK (f57_E k c75 c76) Try.f57 [] f57_un retF) ⟨[.val 27 p1, .int .i64 n2, .undef, .undef, .undef, .undef, .undef, .undef, .undef, .undef, .undef, .undef, .undef, .undef, .undef, .undef, .undef, .undef, .undef, .undef, .undef, .undef, .undef, .undef, .undef, .undef, .undef, .undef, .undef, .undef, .undef, .undef, .undef, .undef, .undef, .undef, .undef, .undef, .undef, .undef, .undef, .undef, .undef, .undef, .undef, .undef, .undef, .undef, .undef, .undef, .undef, .undef, .undef, .undef, .undef], []⟩ = f57_N k c75 c76 (fun y0 => retF y0) p1 n2 :=
  (f57_e_mem k c75 c76 retF p1 n2)

mutual
noncomputable def G77 : Nat → PV → Int → (Bool → Int → R) → R
  | 0, _, _, _ => none
  | k + 1, p1, n2, ret0 => f77_N k (G57 k) ret0 p1 n2
noncomputable def G90 : Nat → PV → Int → (Int → Int → R) → R
  | 0, _, _, _ => none
  | k + 1, p1, n2, ret0 => f90_N k (G77 k) ret0 p1 n2
noncomputable def G76 : Nat → PV → Int → (Bool → Int → R) → R
  | 0, _, _, _ => none
  | k + 1, p1, n2, ret0 => f76_N k (G90 k) ret0 p1 n2
noncomputable def G57 : Nat → PV → Int → (Bool → R) → R
  | 0, _, _, _ => none
  | k + 1, p1, n2, ret0 => f57_N k (G75 k) (G76 k) ret0 p1 n2
end
mutual
theorem S77 : ∀ k, Snd Try.prog 77 f77_I f77_O (fun x ret => G77 k x.1 x.2 (fun y0 y1 => ret (y0, y1)))
  | 0 => snd_none
  | k + 1 => snd_step (E := f77_E k (G57 k)) rfl laidOut noNums (orc_ok (S57 k).o f57_D_ok orc0_ok) (f := 77) (fn := Try.f77) (code := f77_code) Try.func77 (by kernel_rfl) (drawsOk_of laidOut (orc_ok (S57 k).o f57_D_ok orc0_ok) mixed (by kernel_rfl)) f77_un f77_un_ok [4000000] (fun _ => rfl)
      (fun x ret => f77_eq k (G57 k) ret x.1 x.2)
theorem S90 : ∀ k, Snd Try.prog 90 f90_I f90_O (fun x ret => G90 k x.1 x.2 (fun y0 y1 => ret (y0, y1)))
  | 0 => snd_none
  | k + 1 => snd_step (E := f90_E k (G77 k)) rfl laidOut noNums (orc_ok (S77 k).o f77_D_ok orc0_ok) (f := 90) (fn := Try.f90) (code := f90_code) Try.func90 (by kernel_rfl) (drawsOk_of laidOut (orc_ok (S77 k).o f77_D_ok orc0_ok) mixed (by kernel_rfl)) f90_un f90_un_ok [4001000] (fun _ => rfl)
      (fun x ret => f90_eq k (G77 k) ret x.1 x.2)
theorem S76 : ∀ k, Snd Try.prog 76 f76_I f76_O (fun x ret => G76 k x.1 x.2 (fun y0 y1 => ret (y0, y1)))
  | 0 => snd_none
  | k + 1 => snd_step (E := f76_E k (G90 k)) rfl laidOut noNums (orc_ok (S90 k).o f90_D_ok orc0_ok) (f := 76) (fn := Try.f76) (code := f76_code) Try.func76 (by kernel_rfl) (drawsOk_of laidOut (orc_ok (S90 k).o f90_D_ok orc0_ok) mixed (by kernel_rfl)) f76_un f76_un_ok [4001000] (fun _ => rfl)
      (fun x ret => f76_eq k (G90 k) ret x.1 x.2)
theorem S57 : ∀ k, Snd Try.prog 57 f57_I f57_O (fun x ret => G57 k x.1 x.2 (fun y0 => ret y0))
  | 0 => snd_none
  | k + 1 => snd_step (E := f57_E k (G75 k) (G76 k)) rfl laidOut noNums (orc_ok (S75 k).o f75_D_ok (orc_ok (S76 k).o f76_D_ok orc0_ok)) (f := 57) (fn := Try.f57) (code := f57_code) Try.func57 (by kernel_rfl) (drawsOk_of laidOut (orc_ok (S75 k).o f75_D_ok (orc_ok (S76 k).o f76_D_ok orc0_ok)) mixed (by kernel_rfl)) f57_un f57_un_ok [] (fun _ => rfl)
      (fun x ret => f57_eq k (G75 k) (G76 k) ret x.1 x.2)
end

/- catchpole/core.Good -/
noncomputable def f16_I : PV → List SV × Obs := fun x => ([.val 27 x], [])
noncomputable def f16_D : List SV → Obs → Option (PV)
  | [.val 27 p1], [] => some p1
  | _, _ => none
theorem f16_D_ok (args : List SV) (B : Obs) (x : PV) (h : f16_D args B = some x) : f16_I x = (args, B) := by
  unfold f16_D at h
  split at h
  · injection h with h; subst h; rfl
  · cases h
noncomputable def f16_O : Bool → Out := (fun y => ([.bool y], []))
noncomputable def f16_un : Out → Option (Bool)
  | ([.bool y0], []) => some y0
  | _ => none
theorem f16_un_ok (o : Out) (y : Bool) (h : f16_un o = some y) : o = f16_O y := by
  unfold f16_un at h
  split at h
  · injection h with h; subst h; rfl
  · cases h
noncomputable def f16_msk : Nat → Option (List Nat) := fun key =>  none
noncomputable def f16_C (c56 : PV → (Int → R) → R) (c57 : PV → Int → (Bool → R) → R) : Oracle := orc 56 f56_D f56_O (fun x ret => c56 x (fun y0 => ret y0)) <| orc 57 f57_D f57_O (fun x ret => c57 x.1 x.2 (fun y0 => ret y0)) <| orc0
noncomputable def f16_E (k : Nat) (c56 : PV → (Int → R) → R) (c57 : PV → Int → (Bool → R) → R) : Env := { P := Try.prog, nilOwn := fun d => false, fldOwn := fun d i => false, ownPar := ownPars, ownRet := false, mask := f16_msk, fuel := k, C := f16_C c56 c57 }
noncomputable def f16_code : Code := Try.f16.body.getD .skip
noncomputable def f16_e (c56 : PV → (Int → R) → R) (c57 : PV → Int → (Bool → R) → R) (ret0 : Bool → R) (p1 : PV) : R :=
  c56 p1 fun n2 =>
  bif ((decide (n2 ≤ (2000 : Int))) == true) then
    c57 p1 8000 fun b3 =>
    ret0 b3
  else ret0 false

theorem f16_e_mem (k : Nat) (c56 : PV → (Int → R) → R) (c57 : PV → Int → (Bool → R) → R) (retF : Bool → R) (p1 : PV) : exec (f16_E k c56 c57) f16_code (endK (f16_E k c56 c57) Try.f16 [] f16_un retF) ⟨[.val 27 p1, .undef, .undef, .undef, .undef, .undef, .undef, .undef, .undef, .undef], []⟩ = f16_e c56 c57 (fun y0 => retF y0) p1 := by kernel_rfl

noncomputable def f16_N (k : Nat) (c56 : PV → (Int → R) → R) (c57 : PV → Int → (Bool → R) → R) (ret0 : Bool → R) (p1 : PV) : R :=
  f16_e c56 c57 ret0 p1
theorem f16_eq (k : Nat) (c56 : PV → (Int → R) → R) (c57 : PV → Int → (Bool → R) → R) (retF : Bool → R) (p1 : PV) : exec (f16_E k c56 c57) f16_code (endK (f16_E k c56 c57) Try.f16 [] f16_un retF) ⟨[.val 27 p1, .undef, .undef, .undef, .undef, .undef, .undef, .undef, .undef, .undef], []⟩ = f16_N k c56 c57 (fun y0 => retF y0) p1 :=
  (f16_e_mem k c56 c57 retF p1)

noncomputable def G16 : Nat → PV → (Bool → R) → R
  | 0, _, _ => none
  | k + 1, p1, ret0 => f16_N k (G56 k) (G57 k) ret0 p1
theorem S16 : ∀ k, Snd Try.prog 16 f16_I f16_O (fun x ret => G16 k x (fun y0 => ret y0))
  | 0 => snd_none
  | k + 1 => snd_step (E := f16_E k (G56 k) (G57 k)) rfl laidOut noNums (orc_ok (S56 k).o f56_D_ok (orc_ok (S57 k).o f57_D_ok orc0_ok)) (f := 16) (fn := Try.f16) (code := f16_code) Try.func16 (by kernel_rfl) (drawsOk_of laidOut (orc_ok (S56 k).o f56_D_ok (orc_ok (S57 k).o f57_D_ok orc0_ok)) mixed (by kernel_rfl)) f16_un f16_un_ok [] (fun _ => rfl)
      (fun x ret => f16_eq k (G56 k) (G57 k) ret x)

/- catchpole/value.kind -/
noncomputable def f78_I : PV → List SV × Obs := fun x => ([.val 30 x], [])
noncomputable def f78_D : List SV → Obs → Option (PV)
  | [.val 30 p1], [] => some p1
  | _, _ => none
theorem f78_D_ok (args : List SV) (B : Obs) (x : PV) (h : f78_D args B = some x) : f78_I x = (args, B) := by
  unfold f78_D at h
  split at h
  · injection h with h; subst h; rfl
  · cases h
noncomputable def f78_O : Int × Int → Out := (fun y => ([.int .i64 y.1, .int .i64 y.2], []))
noncomputable def f78_un : Out → Option (Int × Int)
  | ([.int .i64 y0, .int .i64 y1], []) => some (y0, y1)
  | _ => none
theorem f78_un_ok (o : Out) (y : Int × Int) (h : f78_un o = some y) : o = f78_O y := by
  unfold f78_un at h
  split at h
  · injection h with h; subst h; rfl
  · cases h
noncomputable def f78_msk : Nat → Option (List Nat) := fun key =>  none
noncomputable def f78_C : Oracle := orc0
noncomputable def f78_E (k : Nat) : Env := { P := Try.prog, nilOwn := fun d => false, fldOwn := fun d i => false, ownPar := ownPars, ownRet := false, mask := f78_msk, fuel := k, C := f78_C }
noncomputable def f78_code : Code := Try.f78.body.getD .skip
noncomputable def f78_e (ret0 : Int → Int → R) (p1 : PV) : R :=
  bif (decide ((PV.num (PV.fld p1 0)) = (1 : Int))) then
    ret0 1 0
  else bif (decide ((PV.num (PV.fld p1 0)) = (2 : Int))) then
    ret0 2 0
  else bif (decide ((PV.num (PV.fld p1 0)) = (3 : Int))) then
    ret0 3 2
  else bif (decide ((PV.num (PV.fld p1 0)) = (4 : Int))) then
    ret0 4 1
  else bif (decide ((PV.num (PV.fld p1 0)) = (5 : Int))) then
    ret0 4 1
  else bif (decide ((PV.num (PV.fld p1 0)) = (6 : Int))) then
    ret0 5 (List.length (PV.els (PV.fld p1 2)) : Int)
  else bif (decide ((PV.num (PV.fld p1 0)) = (7 : Int))) then
    ret0 6 1
  else ret0 0 0

theorem f78_e_mem (k : Nat) (retF : Int × Int → R) (p1 : PV) : exec (f78_E k) f78_code (endK (f78_E k) Try.f78 [] f78_un retF) ⟨[.val 30 p1, .undef, .undef, .undef, .undef, .undef, .undef, .undef, .undef, .undef, .undef, .undef, .undef, .undef, .undef, .undef, .undef, .undef, .undef, .undef, .undef, .undef], []⟩ = f78_e (fun y0 y1 => retF (y0, y1)) p1 := by kernel_rfl

noncomputable def f78_N (k : Nat) (ret0 : Int → Int → R) (p1 : PV) : R :=
  f78_e ret0 p1
theorem f78_eq (k : Nat) (retF : Int × Int → R) (p1 : PV) : exec (f78_E k) f78_code (endK (f78_E k) Try.f78 [] f78_un retF) ⟨[.val 30 p1, .undef, .undef, .undef, .undef, .undef, .undef, .undef, .undef, .undef, .undef, .undef, .undef, .undef, .undef, .undef, .undef, .undef, .undef, .undef, .undef, .undef], []⟩ = f78_N k (fun y0 y1 => retF (y0, y1)) p1 :=
  (f78_e_mem k retF p1)

noncomputable def G78 : Nat → PV → (Int → Int → R) → R
  | 0, _, _ => none
  | k + 1, p1, ret0 => f78_N k  ret0 p1
theorem S78 : ∀ k, Snd Try.prog 78 f78_I f78_O (fun x ret => G78 k x (fun y0 y1 => ret (y0, y1)))
  | 0 => snd_none
  | k + 1 => snd_step (E := f78_E k ) rfl laidOut noNums orc0_ok (f := 78) (fn := Try.f78) (code := f78_code) Try.func78 (by kernel_rfl) (drawsOk_of laidOut orc0_ok mixed (by kernel_rfl)) f78_un f78_un_ok [] (fun _ => rfl)
      (fun x ret => f78_eq k  ret x)

/- (catchpole/byteset.Set).Has -/
noncomputable def f79_I : PV × Int → List SV × Obs := fun x => ([.val 24 x.1, .int .u8 x.2], [])
noncomputable def f79_D : List SV → Obs → Option (PV × Int)
  | [.val 24 p1, .int .u8 n2], [] => some (p1, n2)
  | _, _ => none
theorem f79_D_ok (args : List SV) (B : Obs) (x : PV × Int) (h : f79_D args B = some x) : f79_I x = (args, B) := by
  unfold f79_D at h
  split at h
  · injection h with h; subst h; rfl
  · cases h
noncomputable def f79_O : Bool → Out := (fun y => ([.bool y], []))
noncomputable def f79_un : Out → Option (Bool)
  | ([.bool y0], []) => some y0
  | _ => none
theorem f79_un_ok (o : Out) (y : Bool) (h : f79_un o = some y) : o = f79_O y := by
  unfold f79_un at h
  split at h
  · injection h with h; subst h; rfl
  · cases h
noncomputable def f79_msk : Nat → Option (List Nat) := fun key =>  none
noncomputable def f79_C : Oracle := orc0
noncomputable def f79_E (k : Nat) : Env := { P := Try.prog, nilOwn := fun d => false, fldOwn := fun d i => false, ownPar := ownPars, ownRet := false, mask := f79_msk, fuel := k, C := f79_C }
noncomputable def f79_code : Code := Try.f79.body.getD .skip
noncomputable def f79_e (ret0 : Bool → R) (p1 : PV) (n2 : Int) : R :=
  bif (true && decide ((0 : Int) ≤ (IntKind.wrap .u8 (Int.tdiv n2 64))) && decide ((IntKind.wrap .u8 (Int.tdiv n2 64)) < 4)) then
    bif (decide ((0 : Int) ≤ (Int.tmod n2 64))) then
      let n3 : Int := (Int.fdiv (PV.num (PV.fld p1 ((IntKind.wrap .u8 (Int.tdiv n2 64))).toNat)) (2 ^ (min ((Int.tmod n2 64)).toNat 64)))
      ret0 (decide ((intBit .and .u64 n3 1) = (1 : Int)))
    else none
  else none

theorem f79_e_mem (k : Nat) (retF : Bool → R) (p1 : PV) (n2 : Int) : exec (f79_E k) f79_code (endK (f79_E k) Try.f79 [] f79_un retF) ⟨[.val 24 p1, .int .u8 n2, .undef, .undef, .undef, .undef, .undef, .undef, .undef, .undef, .undef, .undef, .undef, .undef], []⟩ = f79_e (fun y0 => retF y0) p1 n2 := by kernel_rfl

noncomputable def f79_N (k : Nat) (ret0 : Bool → R) (p1 : PV) (n2 : Int) : R :=
  f79_e ret0 p1 n2
theorem f79_eq (k : Nat) (retF : Bool → R) (p1 : PV) (n2 : Int) : exec (f79_E k) f79_code (endK (f79_E k) Try.f79 [] f79_un retF) ⟨[.val 24 p1, .int .u8 n2, .undef, .undef, .undef, .undef, .undef, .undef, .undef, .undef, .undef, .undef, .undef, .undef], []⟩ = f79_N k (fun y0 => retF y0) p1 n2 :=
  (f79_e_mem k retF p1 n2)

noncomputable def G79 : Nat → PV → Int → (Bool → R) → R
  | 0, _, _, _ => none
  | k + 1, p1, n2, ret0 => f79_N k  ret0 p1 n2
theorem S79 : ∀ k, Snd Try.prog 79 f79_I f79_O (fun x ret => G79 k x.1 x.2 (fun y0 => ret y0))
  | 0 => snd_none
  | k + 1 => snd_step (E := f79_E k ) rfl laidOut noNums orc0_ok (f := 79) (fn := Try.f79) (code := f79_code) Try.func79 (by kernel_rfl) (drawsOk_of laidOut orc0_ok mixed (by kernel_rfl)) f79_un f79_un_ok [] (fun _ => rfl)
      (fun x ret => f79_eq k  ret x.1 x.2)

/- catchpole/value.good$1 -/
noncomputable def f81_I : PV × PV → List SV × Obs := fun x => ([.val 30 x.1, .ptr 4000000 []], [(4000000, .box 27 (.val 27 x.2))])
noncomputable def f81_D : List SV → Obs → Option (PV × PV)
  | [.val 30 p1, .ptr 4000000 []], [(4000000, .box 27 (.val 27 p2))] => some (p1, p2)
  | _, _ => none
theorem f81_D_ok (args : List SV) (B : Obs) (x : PV × PV) (h : f81_D args B = some x) : f81_I x = (args, B) := by
  unfold f81_D at h
  split at h
  · injection h with h; subst h; rfl
  · cases h
noncomputable def f81_O : Bool × PV → Out := (fun y => ([.bool y.1], [(4000000, .box 27 (.val 27 y.2))]))
noncomputable def f81_un : Out → Option (Bool × PV)
  | ([.bool y0], [(4000000, .box 27 (.val 27 y1))]) => some (y0, y1)
  | _ => none
theorem f81_un_ok (o : Out) (y : Bool × PV) (h : f81_un o = some y) : o = f81_O y := by
  unfold f81_un at h
  split at h
  · injection h with h; subst h; rfl
  · cases h
/- slices.IndexFunc[[]catchpole/value.Value,catchpole/value.Value] -/
noncomputable def f91_I : PV × PV → List SV × Obs := fun x => ([.val 28 x.1, .fn 81 [.ptr 4001000 []]], [(4001000, .box 27 (.val 27 x.2))])
noncomputable def f91_D : List SV → Obs → Option (PV × PV)
  | [.val 28 p1, .fn 81 [.ptr 4001000 []]], [(4001000, .box 27 (.val 27 p2))] => some (p1, p2)
  | _, _ => none
theorem f91_D_ok (args : List SV) (B : Obs) (x : PV × PV) (h : f91_D args B = some x) : f91_I x = (args, B) := by
  unfold f91_D at h
  split at h
  · injection h with h; subst h; rfl
  · cases h
noncomputable def f91_O : Int × PV → Out := (fun y => ([.int .i64 y.1], [(4001000, .box 27 (.val 27 y.2))]))
noncomputable def f91_un : Out → Option (Int × PV)
  | ([.int .i64 y0], [(4001000, .box 27 (.val 27 y1))]) => some (y0, y1)
  | _ => none
theorem f91_un_ok (o : Out) (y : Int × PV) (h : f91_un o = some y) : o = f91_O y := by
  unfold f91_un at h
  split at h
  · injection h with h; subst h; rfl
  · cases h
/- slices.ContainsFunc[[]catchpole/value.Value,catchpole/value.Value] -/
noncomputable def f80_I : PV × PV → List SV × Obs := fun x => ([.val 28 x.1, .fn 81 [.ptr 4001000 []]], [(4001000, .box 27 (.val 27 x.2))])
noncomputable def f80_D : List SV → Obs → Option (PV × PV)
  | [.val 28 p1, .fn 81 [.ptr 4001000 []]], [(4001000, .box 27 (.val 27 p2))] => some (p1, p2)
  | _, _ => none
theorem f80_D_ok (args : List SV) (B : Obs) (x : PV × PV) (h : f80_D args B = some x) : f80_I x = (args, B) := by
  unfold f80_D at h
  split at h
  · injection h with h; subst h; rfl
  · cases h
noncomputable def f80_O : Bool × PV → Out := (fun y => ([.bool y.1], [(4001000, .box 27 (.val 27 y.2))]))
noncomputable def f80_un : Out → Option (Bool × PV)
  | ([.bool y0], [(4001000, .box 27 (.val 27 y1))]) => some (y0, y1)
  | _ => none
theorem f80_un_ok (o : Out) (y : Bool × PV) (h : f80_un o = some y) : o = f80_O y := by
  unfold f80_un at h
  split at h
  · injection h with h; subst h; rfl
  · cases h
/- catchpole/value.good -/
noncomputable def f58_I : PV × PV → List SV × Obs := fun x => ([.val 27 x.1, .val 30 x.2], [])
noncomputable def f58_D : List SV → Obs → Option (PV × PV)
  | [.val 27 p1, .val 30 p2], [] => some (p1, p2)
  | _, _ => none
theorem f58_D_ok (args : List SV) (B : Obs) (x : PV × PV) (h : f58_D args B = some x) : f58_I x = (args, B) := by
  unfold f58_D at h
  split at h
  · injection h with h; subst h; rfl
  · cases h
noncomputable def f58_O : Bool → Out := (fun y => ([.bool y], []))
noncomputable def f58_un : Out → Option (Bool)
  | ([.bool y0], []) => some y0
  | _ => none
theorem f58_un_ok (o : Out) (y : Bool) (h : f58_un o = some y) : o = f58_O y := by
  unfold f58_un at h
  split at h
  · injection h with h; subst h; rfl
  · cases h
noncomputable def f81_msk : Nat → Option (List Nat) := fun key =>  none
noncomputable def f81_C (c58 : PV → PV → (Bool → R) → R) : Oracle := orc 58 f58_D f58_O (fun x ret => c58 x.1 x.2 (fun y0 => ret y0)) <| orc0
noncomputable def f81_E (k : Nat) (c58 : PV → PV → (Bool → R) → R) : Env := { P := Try.prog, nilOwn := fun d => false, fldOwn := fun d i => false, ownPar := ownPars, ownRet := false, mask := f81_msk, fuel := k, C := f81_C c58 }
noncomputable def f81_code : Code := Try.f81.body.getD .skip
noncomputable def f81_e (c58 : PV → PV → (Bool → R) → R) (ret0 : Bool → PV → R) (p1 : PV) (p2 : PV) : R :=
  bif (true && decide ((0 : Int) ≤ (0 : Int)) && decide ((0 : Int) < (List.length (PV.els (PV.fld p2 3)) : Int))) then
    c58 (List.getD (PV.els (PV.fld p2 3)) ((0 : Int)).toNat PV.nil) p1 fun b3 =>
    ret0 (!b3) p2
  else none

theorem f81_e_mem (k : Nat) (c58 : PV → PV → (Bool → R) → R) (retF : Bool × PV → R) (p1 : PV) (p2 : PV) : exec (f81_E k c58) f81_code (endK (f81_E k c58) Try.f81 [4000000] f81_un retF) ⟨[.val 30 p1, .ptr 4000000 [], .undef, .undef, .undef, .undef, .undef, .undef, .undef, .undef, .undef], [(4000000, .box 27 (.val 27 p2))]⟩ = f81_e c58 (fun y0 y1 => retF (y0, y1)) p1 p2 := by kernel_rfl

noncomputable def f81_N (k : Nat) (c58 : PV → PV → (Bool → R) → R) (ret0 : Bool → PV → R) (p1 : PV) (p2 : PV) : R :=
  f81_e c58 ret0 p1 p2
theorem f81_eq (k : Nat) (c58 : PV → PV → (Bool → R) → R) (retF : Bool × PV → R) (p1 : PV) (p2 : PV) : exec (f81_E k c58) f81_code (endK (f81_E k c58) Try.f81 [4000000] f81_un retF) ⟨[.val 30 p1, .ptr 4000000 [], .undef, .undef, .undef, .undef, .undef, .undef, .undef, .undef, .undef], [(4000000, .box 27 (.val 27 p2))]⟩ = f81_N k c58 (fun y0 y1 => retF (y0, y1)) p1 p2 :=
  (f81_e_mem k c58 retF p1 p2)

noncomputable def f91_msk : Nat → Option (List Nat) := fun key => bif key == 6 then some [0, 1, 7, 8] else none
noncomputable def f91_C (c81 : PV → PV → (Bool → PV → R) → R) : Oracle := orc 81 f81_D f81_O (fun x ret => c81 x.1 x.2 (fun y0 y1 => ret (y0, y1))) <| orc0
noncomputable def f91_E (k : Nat) (c81 : PV → PV → (Bool → PV → R) → R) : Env := { P := Try.prog, nilOwn := fun d => false, fldOwn := fun d i => false, ownPar := ownPars, ownRet := false, mask := f91_msk, fuel := k, C := f91_C c81 }
noncomputable def f91_code : Code := Try.f91.body.getD .skip
noncomputable def f91_cw1 : Code := subC f91_code [1, 0, 1, 0, 0]
noncomputable def f91_hw1_0 (p1 : PV) (n5 : Int) (p6 : PV) : St := ⟨[.val 28 p1, .fn 81 [.ptr 4001000 []], .dead, .dead, .dead, .dead, .dead, .int .i64 (List.length (PV.els p1) : Int), .int .i64 n5, .dead, .dead, .dead, .dead, .dead, .dead, .dead, .dead, .dead, .dead], [(4001000, .box 27 (.val 27 p6))]⟩
noncomputable def f91_w1A (k : Nat) (c81 : PV → PV → (Bool → PV → R) → R) (retF : Int × PV → R) (p1 : PV) (n5 : Int) (p6 : PV) : R := loopM (f91_E k c81) f91_cw1 (kont (f91_E k c81) f91_code [1, 0, 1, 0] (endK (f91_E k c81) Try.f91 [4001000] f91_un retF)) k (f91_hw1_0 p1 n5 p6)
noncomputable def f91_w1b0 (c81 : PV → PV → (Bool → PV → R) → R) (ret0 : Int → PV → R) (next_w1_0 : Int → PV → R) (p1 : PV) (n5 : Int) (p6 : PV) : R :=
  bif (decide (n5 < (List.length (PV.els p1) : Int))) then
    bif (true && decide ((0 : Int) ≤ n5) && decide (n5 < (List.length (PV.els p1) : Int))) then
      c81 (List.getD (PV.els p1) (n5).toNat PV.nil) p6 fun b7 p8 =>
      bif b7 then
        ret0 n5 p8
      else next_w1_0 (IntKind.wrap .i64 (n5 + (1 : Int))) p8
    else none
  else ret0 (-1) p6

theorem f91_w1b0_mem (k : Nat) (c81 : PV → PV → (Bool → PV → R) → R) (retF : Int × PV → R) (NX_w1 : St → R) (p1 : PV) (n5 : Int) (p6 : PV) : exec (f91_E k c81) f91_cw1 (purgeK (f91_E k c81) f91_cw1 (loopK NX_w1 (kont (f91_E k c81) f91_code [1, 0, 1, 0] (endK (f91_E k c81) Try.f91 [4001000] f91_un retF)))) (f91_hw1_0 p1 n5 p6) = f91_w1b0 c81 (fun y0 y1 => retF (y0, y1)) (fun n5 p6 => NX_w1 (f91_hw1_0 p1 n5 p6)) p1 n5 p6 := by kernel_rfl

noncomputable def f91_w1b0N (k : Nat) (c81 : PV → PV → (Bool → PV → R) → R) (ret0 : Int → PV → R) (next_w1_0 : Int → PV → R) (p1 : PV) (n5 : Int) (p6 : PV) : R :=
  f91_w1b0 c81 ret0 next_w1_0 p1 n5 p6
theorem f91_w1b0_eq (k : Nat) (c81 : PV → PV → (Bool → PV → R) → R) (retF : Int × PV → R) (NX_w1 : St → R) (p1 : PV) (n5 : Int) (p6 : PV) : exec (f91_E k c81) f91_cw1 (purgeK (f91_E k c81) f91_cw1 (loopK NX_w1 (kont (f91_E k c81) f91_code [1, 0, 1, 0] (endK (f91_E k c81) Try.f91 [4001000] f91_un retF)))) (f91_hw1_0 p1 n5 p6) = f91_w1b0N k c81 (fun y0 y1 => retF (y0, y1)) (fun n5 p6 => NX_w1 (f91_hw1_0 p1 n5 p6)) p1 n5 p6 :=
  (f91_w1b0_mem k c81 retF NX_w1 p1 n5 p6)

noncomputable def f91_w1B (k : Nat) (c81 : PV → PV → (Bool → PV → R) → R) (ret0 : Int → PV → R) (p1 : PV) (nx : Int × PV → R) : Int × PV → R := (fun s => f91_w1b0N k c81 ret0 (fun n5 p6 => nx (n5, p6)) p1 s.1 s.2)
noncomputable def f91_w1N (k : Nat) (c81 : PV → PV → (Bool → PV → R) → R) (ret0 : Int → PV → R) (p1 : PV) (n5 : Int) (p6 : PV) : R := loopR (f91_w1B k c81 ret0 p1) k (n5, p6)
theorem f91_w1_eq (k : Nat) (c81 : PV → PV → (Bool → PV → R) → R) (retF : Int × PV → R) (p1 : PV) (n5 : Int) (p6 : PV) : f91_w1A k c81 retF p1 n5 p6 = f91_w1N k c81 (fun y0 y1 => retF (y0, y1)) p1 n5 p6 :=
  Eq.mp (by kernel_rfl) (loop_sim (E := (f91_E k c81)) (c := f91_cw1) (K := (kont (f91_E k c81) f91_code [1, 0, 1, 0] (endK (f91_E k c81) Try.f91 [4001000] f91_un retF))) (S := Int × PV) (fun s => f91_hw1_0 p1 s.1 s.2) (f91_w1B k c81 (fun y0 y1 => retF (y0, y1)) p1) (fun NX s => by
    exact Eq.mp (by kernel_rfl) (f91_w1b0_eq k c81 retF NX p1 s.1 s.2)) k (n5, p6))

noncomputable def f91_e (c81 : PV → PV → (Bool → PV → R) → R) (ret0 : Int → PV → R) (w1 : Int → PV → R) (p1 : PV) (p2 : PV) : R :=
  w1 0 p2

theorem f91_e_mem (k : Nat) (c81 : PV → PV → (Bool → PV → R) → R) (retF : Int × PV → R) (p1 : PV) (p2 : PV) : exec (f91_E k c81) f91_code (endK (f91_E k c81) Try.f91 [4001000] f91_un retF) ⟨[.val 28 p1, .fn 81 [.ptr 4001000 []], .undef, .undef, .undef, .undef, .undef, .undef, .undef, .undef, .undef, .undef, .undef, .undef, .undef, .undef, .undef, .undef, .undef], [(4001000, .box 27 (.val 27 p2))]⟩ = f91_e c81 (fun y0 y1 => retF (y0, y1)) (fun n5 p6 => f91_w1A k c81 retF p1 n5 p6) p1 p2 := by kernel_rfl

noncomputable def f91_N (k : Nat) (c81 : PV → PV → (Bool → PV → R) → R) (ret0 : Int → PV → R) (p1 : PV) (p2 : PV) : R :=
  f91_e c81 ret0 (fun n5 p6 => f91_w1N k c81 ret0 p1 n5 p6) p1 p2
theorem f91_eq (k : Nat) (c81 : PV → PV → (Bool → PV → R) → R) (retF : Int × PV → R) (p1 : PV) (p2 : PV) : exec (f91_E k c81) f91_code (endK (f91_E k c81) Try.f91 [4001000] f91_un retF) ⟨[.val 28 p1, .fn 81 [.ptr 4001000 []], .undef, .undef, .undef, .undef, .undef, .undef, .undef, .undef, .undef, .undef, .undef, .undef, .undef, .undef, .undef, .undef, .undef], [(4001000, .box 27 (.val 27 p2))]⟩ = f91_N k c81 (fun y0 y1 => retF (y0, y1)) p1 p2 :=
  (f91_e_mem k c81 retF p1 p2).trans (by rw [show (fun n5 p6 => f91_w1A k c81 retF p1 n5 p6) = (fun n5 p6 => f91_w1N k c81 (fun y0 y1 => retF (y0, y1)) p1 n5 p6) from funext fun n5 => funext fun p6 => f91_w1_eq k c81 retF p1 n5 p6]; rfl)

noncomputable def f80_msk : Nat → Option (List Nat) := fun key =>  none
noncomputable def f80_C (c91 : PV → PV → (Int → PV → R) → R) : Oracle := orc 91 f91_D f91_O (fun x ret => c91 x.1 x.2 (fun y0 y1 => ret (y0, y1))) <| orc0
noncomputable def f80_E (k : Nat) (c91 : PV → PV → (Int → PV → R) → R) : Env := { P := Try.prog, nilOwn := fun d => false, fldOwn := fun d i => false, ownPar := ownPars, ownRet := false, mask := f80_msk, fuel := k, C := f80_C c91 }
noncomputable def f80_code : Code := Try.f80.body.getD .skip
noncomputable def f80_e (c91 : PV → PV → (Int → PV → R) → R) (ret0 : Bool → PV → R) (p1 : PV) (p2 : PV) : R :=
  c91 p1 p2 fun n3 p4 =>
  ret0 (decide ((0 : Int) ≤ n3)) p4

theorem f80_e_mem (k : Nat) (c91 : PV → PV → (Int → PV → R) → R) (retF : Bool × PV → R) (p1 : PV) (p2 : PV) : exec (f80_E k c91) f80_code (endK (f80_E k c91) Try.f80 [4001000] f80_un retF) ⟨[.val 28 p1, .fn 81 [.ptr 4001000 []], .undef, .undef, .undef, .undef, .undef, .undef, .undef], [(4001000, .box 27 (.val 27 p2))]⟩ = f80_e c91 (fun y0 y1 => retF (y0, y1)) p1 p2 := by kernel_rfl

noncomputable def f80_N (k : Nat) (c91 : PV → PV → (Int → PV → R) → R) (ret0 : Bool → PV → R) (p1 : PV) (p2 : PV) : R :=
  f80_e c91 ret0 p1 p2
theorem f80_eq (k : Nat) (c91 : PV → PV → (Int → PV → R) → R) (retF : Bool × PV → R) (p1 : PV) (p2 : PV) : exec (f80_E k c91) f80_code (endK (f80_E k c91) Try.f80 [4001000] f80_un retF) ⟨[.val 28 p1, .fn 81 [.ptr 4001000 []], .undef, .undef, .undef, .undef, .undef, .undef, .undef], [(4001000, .box 27 (.val 27 p2))]⟩ = f80_N k c91 (fun y0 y1 => retF (y0, y1)) p1 p2 :=
  (f80_e_mem k c91 retF p1 p2)

noncomputable def f58_msk : Nat → Option (List Nat) := fun key =>  none
noncomputable def f58_C (c58 : PV → PV → (Bool → R) → R) (c78 : PV → (Int → Int → R) → R) (c79 : PV → Int → (Bool → R) → R) (c80 : PV → PV → (Bool → PV → R) → R) : Oracle := orc 58 f58_D f58_O (fun x ret => c58 x.1 x.2 (fun y0 => ret y0)) <| orc 78 f78_D f78_O (fun x ret => c78 x (fun y0 y1 => ret (y0, y1))) <| orc 79 f79_D f79_O (fun x ret => c79 x.1 x.2 (fun y0 => ret y0)) <| orc 80 f80_D f80_O (fun x ret => c80 x.1 x.2 (fun y0 y1 => ret (y0, y1))) <| orc0
noncomputable def f58_E (k : Nat) (c58 : PV → PV → (Bool → R) → R) (c78 : PV → (Int → Int → R) → R) (c79 : PV → Int → (Bool → R) → R) (c80 : PV → PV → (Bool → PV → R) → R) : Env := { P := Try.prog, nilOwn := fun d => false, fldOwn := fun d i => false, ownPar := ownPars, ownRet := false, mask := f58_msk, fuel := k, C := f58_C c58 c78 c79 c80 }
noncomputable def f58_code : Code := Try.f58.body.getD .skip
noncomputable def f58_e (c58 : PV → PV → (Bool → R) → R) (c78 : PV → (Int → Int → R) → R) (c79 : PV → Int → (Bool → R) → R) (c80 : PV → PV → (Bool → PV → R) → R) (ret0 : Bool → R) (p1 : PV) (p2 : PV) : R :=
  bif (decide ((PV.num (PV.fld p1 0)) = (7 : Int))) then
    bif (true && decide ((0 : Int) ≤ (0 : Int)) && decide ((0 : Int) < (List.length (PV.els (PV.fld p1 3)) : Int))) then
      c58 (List.getD (PV.els (PV.fld p1 3)) ((0 : Int)).toNat PV.nil) p2 fun b3 =>
      ret0 b3
    else none
  else c78 p2 fun n4 n5 =>
  bif ((!(decide (n4 = (PV.num (PV.fld p1 0))))) == false) then
    bif ((decide (n4 = (0 : Int))) == false) then
      bif ((!(decide ((List.length (PV.els (PV.fld p2 2)) : Int) = n5))) == false) then
        bif ((!(decide (n4 = (2 : Int)))) == true) then
          bif (!(decide ((PV.num (PV.fld p2 1)) = (0 : Int)))) then
            ret0 false
          else bif (decide ((PV.num (PV.fld p2 0)) = (2 : Int))) then
            c79 (PV.fld p1 1) (PV.num (PV.fld p2 1)) fun b6 =>
            ret0 b6
          else bif (decide ((PV.num (PV.fld p2 0)) = (5 : Int))) then
            bif (true && decide ((0 : Int) ≤ (1 : Int)) && decide ((1 : Int) < (List.length (PV.els (PV.fld p1 3)) : Int))) then
              bif (true && decide ((0 : Int) ≤ (0 : Int)) && decide ((0 : Int) < (List.length (PV.els (PV.fld p2 2)) : Int))) then
                c58 (List.getD (PV.els (PV.fld p1 3)) ((1 : Int)).toNat PV.nil) (List.getD (PV.els (PV.fld p2 2)) ((0 : Int)).toNat PV.nil) fun b7 =>
                ret0 b7
              else none
            else none
          else bif (decide ((PV.num (PV.fld p2 0)) = (3 : Int))) then
            bif (true && decide ((0 : Int) ≤ (0 : Int)) && decide ((0 : Int) < (List.length (PV.els (PV.fld p1 3)) : Int))) then
              bif (true && decide ((0 : Int) ≤ (0 : Int)) && decide ((0 : Int) < (List.length (PV.els (PV.fld p2 2)) : Int))) then
                c58 (List.getD (PV.els (PV.fld p1 3)) ((0 : Int)).toNat PV.nil) (List.getD (PV.els (PV.fld p2 2)) ((0 : Int)).toNat PV.nil) fun b8 =>
                bif (b8 == true) then
                  bif (true && decide ((0 : Int) ≤ (1 : Int)) && decide ((1 : Int) < (List.length (PV.els (PV.fld p1 3)) : Int))) then
                    bif (true && decide ((0 : Int) ≤ (1 : Int)) && decide ((1 : Int) < (List.length (PV.els (PV.fld p2 2)) : Int))) then
                      c58 (List.getD (PV.els (PV.fld p1 3)) ((1 : Int)).toNat PV.nil) (List.getD (PV.els (PV.fld p2 2)) ((1 : Int)).toNat PV.nil) fun b9 =>
                      ret0 b9
                    else none
                  else none
                else ret0 false
              else none
            else none
          else c80 (PV.fld p2 2) p1 fun b10 p11 =>
          ret0 (!b10)
        else bif (decide ((PV.num (PV.fld p2 0)) = (2 : Int))) then
          c79 (PV.fld p1 1) (PV.num (PV.fld p2 1)) fun b12 =>
          ret0 b12
        else bif (decide ((PV.num (PV.fld p2 0)) = (5 : Int))) then
          bif (true && decide ((0 : Int) ≤ (1 : Int)) && decide ((1 : Int) < (List.length (PV.els (PV.fld p1 3)) : Int))) then
            bif (true && decide ((0 : Int) ≤ (0 : Int)) && decide ((0 : Int) < (List.length (PV.els (PV.fld p2 2)) : Int))) then
              c58 (List.getD (PV.els (PV.fld p1 3)) ((1 : Int)).toNat PV.nil) (List.getD (PV.els (PV.fld p2 2)) ((0 : Int)).toNat PV.nil) fun b13 =>
              ret0 b13
            else none
          else none
        else bif (decide ((PV.num (PV.fld p2 0)) = (3 : Int))) then
          bif (true && decide ((0 : Int) ≤ (0 : Int)) && decide ((0 : Int) < (List.length (PV.els (PV.fld p1 3)) : Int))) then
            bif (true && decide ((0 : Int) ≤ (0 : Int)) && decide ((0 : Int) < (List.length (PV.els (PV.fld p2 2)) : Int))) then
              c58 (List.getD (PV.els (PV.fld p1 3)) ((0 : Int)).toNat PV.nil) (List.getD (PV.els (PV.fld p2 2)) ((0 : Int)).toNat PV.nil) fun b14 =>
              bif (b14 == true) then
                bif (true && decide ((0 : Int) ≤ (1 : Int)) && decide ((1 : Int) < (List.length (PV.els (PV.fld p1 3)) : Int))) then
                  bif (true && decide ((0 : Int) ≤ (1 : Int)) && decide ((1 : Int) < (List.length (PV.els (PV.fld p2 2)) : Int))) then
                    c58 (List.getD (PV.els (PV.fld p1 3)) ((1 : Int)).toNat PV.nil) (List.getD (PV.els (PV.fld p2 2)) ((1 : Int)).toNat PV.nil) fun b15 =>
                    ret0 b15
                  else none
                else none
              else ret0 false
            else none
          else none
        else c80 (PV.fld p2 2) p1 fun b16 p17 =>
        ret0 (!b16)
      else ret0 false
    else ret0 false
  else ret0 false

theorem f58_e_mem (k : Nat) (c58 : PV → PV → (Bool → R) → R) (c78 : PV → (Int → Int → R) → R) (c79 : PV → Int → (Bool → R) → R) (c80 : PV → PV → (Bool → PV → R) → R) (retF : Bool → R) (p1 : PV) (p2 : PV) : exec (f58_E k c58 c78 c79 c80) f58_code (endK (f58_E k c58 c78 c79 c80) Try.f58 [] f58_un retF) ⟨[.val 27 p1, .val 30 p2, .undef, .undef, .undef, .undef, .undef, .undef, .undef, .undef, .undef, .undef, .undef, .undef, .undef, .undef, .undef, .undef, .undef, .undef, .undef, .undef, .undef, .undef, .undef, .undef, .undef, .undef, .undef, .undef, .undef, .undef, .undef, .undef, .undef, .undef, .undef, .undef, .undef, .undef, .undef, .undef, .undef, .undef, .undef, .undef, .undef, .undef, .undef, .undef, .undef, .undef, .undef, .undef, .undef, .undef, .undef, .undef, .undef, .undef, .undef, .undef, .undef, .undef, .undef, .undef, .undef, .undef, .undef, .undef, .undef, .undef, .undef, .undef, .undef, .undef, .undef, .undef, .undef, .undef, .undef, .undef, .undef, .undef, .undef, .undef, .undef, .undef, .undef, .undef, .undef, .undef], []⟩ = f58_e c58 c78 c79 c80 (fun y0 => retF y0) p1 p2 := by kernel_rfl

noncomputable def f58_N (k : Nat) (c58 : PV → PV → (Bool → R) → R) (c78 : PV → (Int → Int → R) → R) (c79 : PV → Int → (Bool → R) → R) (c80 : PV → PV → (Bool → PV → R) → R) (ret0 : Bool → R) (p1 : PV) (p2 : PV) : R :=
  f58_e c58 c78 c79 c80 ret0 p1 p2
theorem f58_eq (k : Nat) (c58 : PV → PV → (Bool → R) → R) (c78 : PV → (Int → Int → R) → R) (c79 : PV → Int → (Bool → R) → R) (c80 : PV → PV → (Bool → PV → R) → R) (retF : Bool → R) (p1 : PV) (p2 : PV) : exec (f58_E k c58 c78 c79 c80) f58_code (endK (f58_E k c58 c78 c79 c80) Try.f58 [] f58_un retF) ⟨[.val 27 p1, .val 30 p2, .undef, .undef, .undef, .undef, .undef, .undef, .undef, .undef, .undef, .undef, .undef, .undef, .undef, .undef, .undef, .undef, .undef, .undef, .undef, .undef, .undef, .undef, .undef, .undef, .undef, .undef, .undef, .undef, .undef, .undef, .undef, .undef, .undef, .undef, .undef, .undef, .undef, .undef, .undef, .undef, .undef, .undef, .undef, .undef, .undef, .undef, .undef, .undef, .undef, .undef, .undef, .undef, .undef, .undef, .undef, .undef, .undef, .undef, .undef, .undef, .undef, .undef, .undef, .undef, .undef, .undef, .undef, .undef, .undef, .undef, .undef, .undef, .undef, .undef, .undef, .undef, .undef, .undef, .undef, .undef, .undef, .undef, .undef, .undef, .undef, .undef, .undef, .undef, .undef, .undef], []⟩ = f58_N k c58 c78 c79 c80 (fun y0 => retF y0) p1 p2 :=
  (f58_e_mem k c58 c78 c79 c80 retF p1 p2)

mutual
noncomputable def G81 : Nat → PV → PV → (Bool → PV → R) → R
  | 0, _, _, _ => none
  | k + 1, p1, p2, ret0 => f81_N k (G58 k) ret0 p1 p2
noncomputable def G91 : Nat → PV → PV → (Int → PV → R) → R
  | 0, _, _, _ => none
  | k + 1, p1, p2, ret0 => f91_N k (G81 k) ret0 p1 p2
noncomputable def G80 : Nat → PV → PV → (Bool → PV → R) → R
  | 0, _, _, _ => none
  | k + 1, p1, p2, ret0 => f80_N k (G91 k) ret0 p1 p2
noncomputable def G58 : Nat → PV → PV → (Bool → R) → R
  | 0, _, _, _ => none
  | k + 1, p1, p2, ret0 => f58_N k (G58 k) (G78 k) (G79 k) (G80 k) ret0 p1 p2
end
mutual
theorem S81 : ∀ k, Snd Try.prog 81 f81_I f81_O (fun x ret => G81 k x.1 x.2 (fun y0 y1 => ret (y0, y1)))
  | 0 => snd_none
  | k + 1 => snd_step (E := f81_E k (G58 k)) rfl laidOut noNums (orc_ok (S58 k).o f58_D_ok orc0_ok) (f := 81) (fn := Try.f81) (code := f81_code) Try.func81 (by kernel_rfl) (drawsOk_of laidOut (orc_ok (S58 k).o f58_D_ok orc0_ok) mixed (by kernel_rfl)) f81_un f81_un_ok [4000000] (fun _ => rfl)
      (fun x ret => f81_eq k (G58 k) ret x.1 x.2)
theorem S91 : ∀ k, Snd Try.prog 91 f91_I f91_O (fun x ret => G91 k x.1 x.2 (fun y0 y1 => ret (y0, y1)))
  | 0 => snd_none
  | k + 1 => snd_step (E := f91_E k (G81 k)) rfl laidOut noNums (orc_ok (S81 k).o f81_D_ok orc0_ok) (f := 91) (fn := Try.f91) (code := f91_code) Try.func91 (by kernel_rfl) (drawsOk_of laidOut (orc_ok (S81 k).o f81_D_ok orc0_ok) mixed (by kernel_rfl)) f91_un f91_un_ok [4001000] (fun _ => rfl)
      (fun x ret => f91_eq k (G81 k) ret x.1 x.2)
theorem S80 : ∀ k, Snd Try.prog 80 f80_I f80_O (fun x ret => G80 k x.1 x.2 (fun y0 y1 => ret (y0, y1)))
  | 0 => snd_none
  | k + 1 => snd_step (E := f80_E k (G91 k)) rfl laidOut noNums (orc_ok (S91 k).o f91_D_ok orc0_ok) (f := 80) (fn := Try.f80) (code := f80_code) Try.func80 (by kernel_rfl) (drawsOk_of laidOut (orc_ok (S91 k).o f91_D_ok orc0_ok) mixed (by kernel_rfl)) f80_un f80_un_ok [4001000] (fun _ => rfl)
      (fun x ret => f80_eq k (G91 k) ret x.1 x.2)
theorem S58 : ∀ k, Snd Try.prog 58 f58_I f58_O (fun x ret => G58 k x.1 x.2 (fun y0 => ret y0))
  | 0 => snd_none
  | k + 1 => snd_step (E := f58_E k (G58 k) (G78 k) (G79 k) (G80 k)) rfl laidOut noNums (orc_ok (S58 k).o f58_D_ok (orc_ok (S78 k).o f78_D_ok (orc_ok (S79 k).o f79_D_ok (orc_ok (S80 k).o f80_D_ok orc0_ok)))) (f := 58) (fn := Try.f58) (code := f58_code) Try.func58 (by kernel_rfl) (drawsOk_of laidOut (orc_ok (S58 k).o f58_D_ok (orc_ok (S78 k).o f78_D_ok (orc_ok (S79 k).o f79_D_ok (orc_ok (S80 k).o f80_D_ok orc0_ok)))) mixed (by kernel_rfl)) f58_un f58_un_ok [] (fun _ => rfl)
      (fun x ret => f58_eq k (G58 k) (G78 k) (G79 k) (G80 k) ret x.1 x.2)
end

/- catchpole/value.Good -/
noncomputable def f18_I : PV × PV → List SV × Obs := fun x => ([.val 27 x.1, .val 30 x.2], [])
noncomputable def f18_D : List SV → Obs → Option (PV × PV)
  | [.val 27 p1, .val 30 p2], [] => some (p1, p2)
  | _, _ => none
theorem f18_D_ok (args : List SV) (B : Obs) (x : PV × PV) (h : f18_D args B = some x) : f18_I x = (args, B) := by
  unfold f18_D at h
  split at h
  · injection h with h; subst h; rfl
  · cases h
noncomputable def f18_O : Bool → Out := (fun y => ([.bool y], []))
noncomputable def f18_un : Out → Option (Bool)
  | ([.bool y0], []) => some y0
  | _ => none
theorem f18_un_ok (o : Out) (y : Bool) (h : f18_un o = some y) : o = f18_O y := by
  unfold f18_un at h
  split at h
  · injection h with h; subst h; rfl
  · cases h
noncomputable def f18_msk : Nat → Option (List Nat) := fun key =>  none
noncomputable def f18_C (c16 : PV → (Bool → R) → R) (c58 : PV → PV → (Bool → R) → R) : Oracle := orc 16 f16_D f16_O (fun x ret => c16 x (fun y0 => ret y0)) <| orc 58 f58_D f58_O (fun x ret => c58 x.1 x.2 (fun y0 => ret y0)) <| orc0
noncomputable def f18_E (k : Nat) (c16 : PV → (Bool → R) → R) (c58 : PV → PV → (Bool → R) → R) : Env := { P := Try.prog, nilOwn := fun d => false, fldOwn := fun d i => false, ownPar := ownPars, ownRet := false, mask := f18_msk, fuel := k, C := f18_C c16 c58 }
noncomputable def f18_code : Code := Try.f18.body.getD .skip
noncomputable def f18_e (c16 : PV → (Bool → R) → R) (c58 : PV → PV → (Bool → R) → R) (ret0 : Bool → R) (p1 : PV) (p2 : PV) : R :=
  c16 p1 fun b3 =>
  bif (b3 == true) then
    c58 p1 p2 fun b4 =>
    ret0 b4
  else ret0 false

theorem f18_e_mem (k : Nat) (c16 : PV → (Bool → R) → R) (c58 : PV → PV → (Bool → R) → R) (retF : Bool → R) (p1 : PV) (p2 : PV) : exec (f18_E k c16 c58) f18_code (endK (f18_E k c16 c58) Try.f18 [] f18_un retF) ⟨[.val 27 p1, .val 30 p2, .undef, .undef, .undef, .undef, .undef, .undef, .undef, .undef, .undef, .undef], []⟩ = f18_e c16 c58 (fun y0 => retF y0) p1 p2 := by kernel_rfl

noncomputable def f18_N (k : Nat) (c16 : PV → (Bool → R) → R) (c58 : PV → PV → (Bool → R) → R) (ret0 : Bool → R) (p1 : PV) (p2 : PV) : R :=
  f18_e c16 c58 ret0 p1 p2
theorem f18_eq (k : Nat) (c16 : PV → (Bool → R) → R) (c58 : PV → PV → (Bool → R) → R) (retF : Bool → R) (p1 : PV) (p2 : PV) : exec (f18_E k c16 c58) f18_code (endK (f18_E k c16 c58) Try.f18 [] f18_un retF) ⟨[.val 27 p1, .val 30 p2, .undef, .undef, .undef, .undef, .undef, .undef, .undef, .undef, .undef, .undef], []⟩ = f18_N k c16 c58 (fun y0 => retF y0) p1 p2 :=
  (f18_e_mem k c16 c58 retF p1 p2)

noncomputable def G18 : Nat → PV → PV → (Bool → R) → R
  | 0, _, _, _ => none
  | k + 1, p1, p2, ret0 => f18_N k (G16 k) (G58 k) ret0 p1 p2
theorem S18 : ∀ k, Snd Try.prog 18 f18_I f18_O (fun x ret => G18 k x.1 x.2 (fun y0 => ret y0))
  | 0 => snd_none
  | k + 1 => snd_step (E := f18_E k (G16 k) (G58 k)) rfl laidOut noNums (orc_ok (S16 k).o f16_D_ok (orc_ok (S58 k).o f58_D_ok orc0_ok)) (f := 18) (fn := Try.f18) (code := f18_code) Try.func18 (by kernel_rfl) (drawsOk_of laidOut (orc_ok (S16 k).o f16_D_ok (orc_ok (S58 k).o f58_D_ok orc0_ok)) mixed (by kernel_rfl)) f18_un f18_un_ok [] (fun _ => rfl)
      (fun x ret => f18_eq k (G16 k) (G58 k) ret x.1 x.2)

/- catchpole/value.Size -/
noncomputable def f24_I : PV → List SV × Obs := fun x => ([.val 30 x], [])
noncomputable def f24_D : List SV → Obs → Option (PV)
  | [.val 30 p1], [] => some p1
  | _, _ => none
theorem f24_D_ok (args : List SV) (B : Obs) (x : PV) (h : f24_D args B = some x) : f24_I x = (args, B) := by
  unfold f24_D at h
  split at h
  · injection h with h; subst h; rfl
  · cases h
noncomputable def f24_O : Int → Out := (fun y => ([.int .i64 y], []))
noncomputable def f24_un : Out → Option (Int)
  | ([.int .i64 y0], []) => some y0
  | _ => none
theorem f24_un_ok (o : Out) (y : Int) (h : f24_un o = some y) : o = f24_O y := by
  unfold f24_un at h
  split at h
  · injection h with h; subst h; rfl
  · cases h
noncomputable def f24_msk : Nat → Option (List Nat) := fun key => bif key == 9 then some [3, 7, 8, 9] else none
noncomputable def f24_C (c24 : PV → (Int → R) → R) (c59 : PV → (PV → R) → R) : Oracle := orc 24 f24_D f24_O (fun x ret => c24 x (fun y0 => ret y0)) <| orc 59 f59_D f59_O (fun x ret => c59 x (fun y0 => ret y0)) <| orc0
noncomputable def f24_E (k : Nat) (c24 : PV → (Int → R) → R) (c59 : PV → (PV → R) → R) : Env := { P := Try.prog, nilOwn := fun d => false, fldOwn := fun d i => false, ownPar := ownPars, ownRet := false, mask := f24_msk, fuel := k, C := f24_C c24 c59 }
noncomputable def f24_code : Code := Try.f24.body.getD .skip
noncomputable def f24_cw1 : Code := subC f24_code [1, 1, 0, 1, 0, 0]
noncomputable def f24_hw1_0 (p2 : PV) (n4 : Int) (n5 : Int) : St := ⟨[.dead, .dead, .dead, .int .i64 n4, .dead, .dead, .dead, .val 28 p2, .int .i64 (List.length (PV.els p2) : Int), .int .i64 n5, .dead, .dead, .dead, .dead, .dead, .dead, .dead, .dead, .dead], []⟩
noncomputable def f24_w1A (k : Nat) (c24 : PV → (Int → R) → R) (c59 : PV → (PV → R) → R) (retF : Int → R) (p2 : PV) (n4 : Int) (n5 : Int) : R := loopM (f24_E k c24 c59) f24_cw1 (kont (f24_E k c24 c59) f24_code [1, 1, 0, 1, 0] (endK (f24_E k c24 c59) Try.f24 [] f24_un retF)) k (f24_hw1_0 p2 n4 n5)
noncomputable def f24_w1b0 (c24 : PV → (Int → R) → R) (c59 : PV → (PV → R) → R) (ret0 : Int → R) (next_w1_0 : Int → Int → R) (p2 : PV) (n4 : Int) (n5 : Int) : R :=
  bif (decide (n5 < (List.length (PV.els p2) : Int))) then
    bif (true && decide ((0 : Int) ≤ n5) && decide (n5 < (List.length (PV.els p2) : Int))) then
      c24 (List.getD (PV.els p2) (n5).toNat PV.nil) fun n6 =>
      next_w1_0 (IntKind.wrap .i64 (n4 + n6)) (IntKind.wrap .i64 (n5 + (1 : Int)))
    else none
  else ret0 n4

theorem f24_w1b0_mem (k : Nat) (c24 : PV → (Int → R) → R) (c59 : PV → (PV → R) → R) (retF : Int → R) (NX_w1 : St → R) (p2 : PV) (n4 : Int) (n5 : Int) : exec (f24_E k c24 c59) f24_cw1 (purgeK (f24_E k c24 c59) f24_cw1 (loopK NX_w1 (kont (f24_E k c24 c59) f24_code [1, 1, 0, 1, 0] (endK (f24_E k c24 c59) Try.f24 [] f24_un retF)))) (f24_hw1_0 p2 n4 n5) = f24_w1b0 c24 c59 (fun y0 => retF y0) (fun n4 n5 => NX_w1 (f24_hw1_0 p2 n4 n5)) p2 n4 n5 := by kernel_rfl

noncomputable def f24_w1b0N (k : Nat) (c24 : PV → (Int → R) → R) (c59 : PV → (PV → R) → R) (ret0 : Int → R) (next_w1_0 : Int → Int → R) (p2 : PV) (n4 : Int) (n5 : Int) : R :=
  f24_w1b0 c24 c59 ret0 next_w1_0 p2 n4 n5
theorem f24_w1b0_eq (k : Nat) (c24 : PV → (Int → R) → R) (c59 : PV → (PV → R) → R) (retF : Int → R) (NX_w1 : St → R) (p2 : PV) (n4 : Int) (n5 : Int) : exec (f24_E k c24 c59) f24_cw1 (purgeK (f24_E k c24 c59) f24_cw1 (loopK NX_w1 (kont (f24_E k c24 c59) f24_code [1, 1, 0, 1, 0] (endK (f24_E k c24 c59) Try.f24 [] f24_un retF)))) (f24_hw1_0 p2 n4 n5) = f24_w1b0N k c24 c59 (fun y0 => retF y0) (fun n4 n5 => NX_w1 (f24_hw1_0 p2 n4 n5)) p2 n4 n5 :=
  (f24_w1b0_mem k c24 c59 retF NX_w1 p2 n4 n5)

noncomputable def f24_w1B (k : Nat) (c24 : PV → (Int → R) → R) (c59 : PV → (PV → R) → R) (ret0 : Int → R) (p2 : PV) (nx : Int × Int → R) : Int × Int → R := (fun s => f24_w1b0N k c24 c59 ret0 (fun n4 n5 => nx (n4, n5)) p2 s.1 s.2)
noncomputable def f24_w1N (k : Nat) (c24 : PV → (Int → R) → R) (c59 : PV → (PV → R) → R) (ret0 : Int → R) (p2 : PV) (n4 : Int) (n5 : Int) : R := loopR (f24_w1B k c24 c59 ret0 p2) k (n4, n5)
theorem f24_w1_eq (k : Nat) (c24 : PV → (Int → R) → R) (c59 : PV → (PV → R) → R) (retF : Int → R) (p2 : PV) (n4 : Int) (n5 : Int) : f24_w1A k c24 c59 retF p2 n4 n5 = f24_w1N k c24 c59 (fun y0 => retF y0) p2 n4 n5 :=
  Eq.mp (by kernel_rfl) (loop_sim (E := (f24_E k c24 c59)) (c := f24_cw1) (K := (kont (f24_E k c24 c59) f24_code [1, 1, 0, 1, 0] (endK (f24_E k c24 c59) Try.f24 [] f24_un retF))) (S := Int × Int) (fun s => f24_hw1_0 p2 s.1 s.2) (f24_w1B k c24 c59 (fun y0 => retF y0) p2) (fun NX s => by
    exact Eq.mp (by kernel_rfl) (f24_w1b0_eq k c24 c59 retF NX p2 s.1 s.2)) k (n4, n5))

noncomputable def f24_e (c24 : PV → (Int → R) → R) (c59 : PV → (PV → R) → R) (ret0 : Int → R) (w1 : PV → Int → Int → R) (p1 : PV) : R :=
  c59 p1 fun p2 =>
  w1 p2 1 0

theorem f24_e_mem (k : Nat) (c24 : PV → (Int → R) → R) (c59 : PV → (PV → R) → R) (retF : Int → R) (p1 : PV) : exec (f24_E k c24 c59) f24_code (endK (f24_E k c24 c59) Try.f24 [] f24_un retF) ⟨[.val 30 p1, .undef, .undef, .undef, .undef, .undef, .undef, .undef, .undef, .undef, .undef, .undef, .undef, .undef, .undef, .undef, .undef, .undef, .undef], []⟩ = f24_e c24 c59 (fun y0 => retF y0) (fun p2 n4 n5 => f24_w1A k c24 c59 retF p2 n4 n5) p1 := by kernel_rfl

noncomputable def f24_N (k : Nat) (c24 : PV → (Int → R) → R) (c59 : PV → (PV → R) → R) (ret0 : Int → R) (p1 : PV) : R :=
  f24_e c24 c59 ret0 (fun p2 n4 n5 => f24_w1N k c24 c59 ret0 p2 n4 n5) p1
theorem f24_eq (k : Nat) (c24 : PV → (Int → R) → R) (c59 : PV → (PV → R) → R) (retF : Int → R) (p1 : PV) : exec (f24_E k c24 c59) f24_code (endK (f24_E k c24 c59) Try.f24 [] f24_un retF) ⟨[.val 30 p1, .undef, .undef, .undef, .undef, .undef, .undef, .undef, .undef, .undef, .undef, .undef, .undef, .undef, .undef, .undef, .undef, .undef, .undef], []⟩ = f24_N k c24 c59 (fun y0 => retF y0) p1 :=
  (f24_e_mem k c24 c59 retF p1).trans (by rw [show (fun p2 n4 n5 => f24_w1A k c24 c59 retF p2 n4 n5) = (fun p2 n4 n5 => f24_w1N k c24 c59 (fun y0 => retF y0) p2 n4 n5) from funext fun p2 => funext fun n4 => funext fun n5 => f24_w1_eq k c24 c59 retF p2 n4 n5]; rfl)

noncomputable def G24 : Nat → PV → (Int → R) → R
  | 0, _, _ => none
  | k + 1, p1, ret0 => f24_N k (G24 k) (G59 k) ret0 p1
theorem S24 : ∀ k, Snd Try.prog 24 f24_I f24_O (fun x ret => G24 k x (fun y0 => ret y0))
  | 0 => snd_none
  | k + 1 => snd_step (E := f24_E k (G24 k) (G59 k)) rfl laidOut noNums (orc_ok (S24 k).o f24_D_ok (orc_ok (S59 k).o f59_D_ok orc0_ok)) (f := 24) (fn := Try.f24) (code := f24_code) Try.func24 (by kernel_rfl) (drawsOk_of laidOut (orc_ok (S24 k).o f24_D_ok (orc_ok (S59 k).o f59_D_ok orc0_ok)) mixed (by kernel_rfl)) f24_un f24_un_ok [] (fun _ => rfl)
      (fun x ret => f24_eq k (G24 k) (G59 k) ret x)

/- catchpole/catchpolelaw10.awake -/
noncomputable def f13_I : Unit → List SV × Obs := fun x => ([], [])
noncomputable def f13_D : List SV → Obs → Option (Unit)
  | [], [] => some ()
  | _, _ => none
theorem f13_D_ok (args : List SV) (B : Obs) (x : Unit) (h : f13_D args B = some x) : f13_I x = (args, B) := by
  unfold f13_D at h
  split at h
  · injection h with h; subst h; rfl
  · cases h
noncomputable def f13_O : Bool → Out := (fun y => ([.bool y], []))
noncomputable def f13_un : Out → Option (Bool)
  | ([.bool y0], []) => some y0
  | _ => none
theorem f13_un_ok (o : Out) (y : Bool) (h : f13_un o = some y) : o = f13_O y := by
  unfold f13_un at h
  split at h
  · injection h with h; subst h; rfl
  · cases h
noncomputable def f13_msk : Nat → Option (List Nat) := fun key =>  none
noncomputable def f13_C (c17 : PV → PV → (PV → R) → R) (c18 : PV → PV → (Bool → R) → R) (c24 : PV → (Int → R) → R) (c25 : PV → ((List Int) → R) → R) (c27 : PV → (PV → R) → R) (c28 : PV → (PV → R) → R) (c30 : Int → Int → (PV → R) → R) : Oracle := orc 17 f17_D f17_O (fun x ret => c17 x.1 x.2 (fun y0 => ret y0)) <| orc 18 f18_D f18_O (fun x ret => c18 x.1 x.2 (fun y0 => ret y0)) <| orc 24 f24_D f24_O (fun x ret => c24 x (fun y0 => ret y0)) <| orc 25 f25_D f25_O (fun x ret => c25 x (fun y0 => ret y0)) <| orc 27 f27_D f27_O (fun x ret => c27 x (fun y0 => ret y0)) <| orc 28 f28_D f28_O (fun x ret => c28 x (fun y0 => ret y0)) <| orc 30 f30_D f30_O (fun x ret => c30 x.1 x.2 (fun y0 => ret y0)) <| orc0
noncomputable def f13_E (k : Nat) (c17 : PV → PV → (PV → R) → R) (c18 : PV → PV → (Bool → R) → R) (c24 : PV → (Int → R) → R) (c25 : PV → ((List Int) → R) → R) (c27 : PV → (PV → R) → R) (c28 : PV → (PV → R) → R) (c30 : Int → Int → (PV → R) → R) : Env := { P := Try.prog, nilOwn := fun d => false, fldOwn := fun d i => false, ownPar := ownPars, ownRet := false, mask := f13_msk, fuel := k, C := f13_C c17 c18 c24 c25 c27 c28 c30 }
noncomputable def f13_code : Code := Try.f13.body.getD .skip
noncomputable def f13_e (c17 : PV → PV → (PV → R) → R) (c18 : PV → PV → (Bool → R) → R) (c24 : PV → (Int → R) → R) (c25 : PV → ((List Int) → R) → R) (c27 : PV → (PV → R) → R) (c28 : PV → (PV → R) → R) (c30 : Int → Int → (PV → R) → R) (ret0 : Bool → R) : R :=
  c30 97 98 fun p1 =>
  c25 p1 fun s2 =>
  bif ((decide ((s2 : List Int) = [40, 54, 49, 44, 54, 50, 41])) == true) then
    c27 p1 fun p3 =>
    bif ((decide (((List.map PV.num (PV.els p3)) : List Int) = [97, 98])) == true) then
      c28 (PV.list [(PV.int 97)]) fun p4 =>
      c28 (PV.list [(PV.int 98)]) fun p5 =>
      c17 p4 p5 fun p6 =>
      c18 p6 p1 fun b7 =>
      bif (b7 == true) then
        c24 p1 fun n8 =>
        ret0 (decide (n8 = (3 : Int)))
      else ret0 false
    else ret0 false
  else ret0 false

theorem f13_e_mem (k : Nat) (c17 : PV → PV → (PV → R) → R) (c18 : PV → PV → (Bool → R) → R) (c24 : PV → (Int → R) → R) (c25 : PV → ((List Int) → R) → R) (c27 : PV → (PV → R) → R) (c28 : PV → (PV → R) → R) (c30 : Int → Int → (PV → R) → R) (retF : Bool → R) : exec (f13_E k c17 c18 c24 c25 c27 c28 c30) f13_code (endK (f13_E k c17 c18 c24 c25 c27 c28 c30) Try.f13 [] f13_un retF) ⟨[.undef, .undef, .undef, .undef, .undef, .undef, .undef, .undef, .undef, .undef, .undef, .undef, .undef, .undef, .undef, .undef, .undef, .undef, .undef, .undef, .undef, .undef, .undef, .undef, .undef, .undef], []⟩ = f13_e c17 c18 c24 c25 c27 c28 c30 (fun y0 => retF y0) := by kernel_rfl

noncomputable def f13_N (k : Nat) (c17 : PV → PV → (PV → R) → R) (c18 : PV → PV → (Bool → R) → R) (c24 : PV → (Int → R) → R) (c25 : PV → ((List Int) → R) → R) (c27 : PV → (PV → R) → R) (c28 : PV → (PV → R) → R) (c30 : Int → Int → (PV → R) → R) (ret0 : Bool → R) : R :=
  f13_e c17 c18 c24 c25 c27 c28 c30 ret0
theorem f13_eq (k : Nat) (c17 : PV → PV → (PV → R) → R) (c18 : PV → PV → (Bool → R) → R) (c24 : PV → (Int → R) → R) (c25 : PV → ((List Int) → R) → R) (c27 : PV → (PV → R) → R) (c28 : PV → (PV → R) → R) (c30 : Int → Int → (PV → R) → R) (retF : Bool → R) : exec (f13_E k c17 c18 c24 c25 c27 c28 c30) f13_code (endK (f13_E k c17 c18 c24 c25 c27 c28 c30) Try.f13 [] f13_un retF) ⟨[.undef, .undef, .undef, .undef, .undef, .undef, .undef, .undef, .undef, .undef, .undef, .undef, .undef, .undef, .undef, .undef, .undef, .undef, .undef, .undef, .undef, .undef, .undef, .undef, .undef, .undef], []⟩ = f13_N k c17 c18 c24 c25 c27 c28 c30 (fun y0 => retF y0) :=
  (f13_e_mem k c17 c18 c24 c25 c27 c28 c30 retF)

noncomputable def G13 : Nat → (Bool → R) → R
  | 0, _ => none
  | k + 1, ret0 => f13_N k (G17 k) (G18 k) (G24 k) (G25 k) (G27 k) (G28 k) (G30 k) ret0 
theorem S13 : ∀ k, Snd Try.prog 13 f13_I f13_O (fun x ret => G13 k (fun y0 => ret y0))
  | 0 => snd_none
  | k + 1 => snd_step (E := f13_E k (G17 k) (G18 k) (G24 k) (G25 k) (G27 k) (G28 k) (G30 k)) rfl laidOut noNums (orc_ok (S17 k).o f17_D_ok (orc_ok (S18 k).o f18_D_ok (orc_ok (S24 k).o f24_D_ok (orc_ok (S25 k).o f25_D_ok (orc_ok (S27 k).o f27_D_ok (orc_ok (S28 k).o f28_D_ok (orc_ok (S30 k).o f30_D_ok orc0_ok))))))) (f := 13) (fn := Try.f13) (code := f13_code) Try.func13 (by kernel_rfl) (drawsOk_of laidOut (orc_ok (S17 k).o f17_D_ok (orc_ok (S18 k).o f18_D_ok (orc_ok (S24 k).o f24_D_ok (orc_ok (S25 k).o f25_D_ok (orc_ok (S27 k).o f27_D_ok (orc_ok (S28 k).o f28_D_ok (orc_ok (S30 k).o f30_D_ok orc0_ok))))))) mixed (by kernel_rfl)) f13_un f13_un_ok [] (fun _ => rfl)
      (fun x ret => f13_eq k (G17 k) (G18 k) (G24 k) (G25 k) (G27 k) (G28 k) (G30 k) ret)

/- catchpole/catchpolelaw10.eps -/
noncomputable def f29_I : Unit → List SV × Obs := fun x => ([], [])
noncomputable def f29_D : List SV → Obs → Option (Unit)
  | [], [] => some ()
  | _, _ => none
theorem f29_D_ok (args : List SV) (B : Obs) (x : Unit) (h : f29_D args B = some x) : f29_I x = (args, B) := by
  unfold f29_D at h
  split at h
  · injection h with h; subst h; rfl
  · cases h
noncomputable def f29_O : PV → Out := (fun y => ([.val 27 y], []))
noncomputable def f29_un : Out → Option (PV)
  | ([.val 27 y0], []) => some y0
  | _ => none
theorem f29_un_ok (o : Out) (y : PV) (h : f29_un o = some y) : o = f29_O y := by
  unfold f29_un at h
  split at h
  · injection h with h; subst h; rfl
  · cases h
noncomputable def f29_msk : Nat → Option (List Nat) := fun key =>  none
noncomputable def f29_C : Oracle := orc0
noncomputable def f29_E (k : Nat) : Env := { P := Try.prog, nilOwn := fun d => false, fldOwn := fun d i => false, ownPar := ownPars, ownRet := false, mask := f29_msk, fuel := k, C := f29_C }
noncomputable def f29_code : Code := Try.f29.body.getD .skip
noncomputable def f29_e (ret0 : PV → R) : R :=
  ret0 (PV.agg [(PV.int 1), (PV.agg [(PV.int 0), (PV.int 0), (PV.int 0), (PV.int 0)]), (PV.int 0), (PV.list [])])

theorem f29_e_mem (k : Nat) (retF : PV → R) : exec (f29_E k) f29_code (endK (f29_E k) Try.f29 [] f29_un retF) ⟨[.undef, .undef], []⟩ = f29_e (fun y0 => retF y0) := by kernel_rfl

noncomputable def f29_N (k : Nat) (ret0 : PV → R) : R :=
  f29_e ret0
theorem f29_eq (k : Nat) (retF : PV → R) : exec (f29_E k) f29_code (endK (f29_E k) Try.f29 [] f29_un retF) ⟨[.undef, .undef], []⟩ = f29_N k (fun y0 => retF y0) :=
  (f29_e_mem k retF)

noncomputable def G29 : Nat → (PV → R) → R
  | 0, _ => none
  | k + 1, ret0 => f29_N k  ret0 
theorem S29 : ∀ k, Snd Try.prog 29 f29_I f29_O (fun x ret => G29 k (fun y0 => ret y0))
  | 0 => snd_none
  | k + 1 => snd_step (E := f29_E k ) rfl laidOut noNums orc0_ok (f := 29) (fn := Try.f29) (code := f29_code) Try.func29 (by kernel_rfl) (drawsOk_of laidOut orc0_ok mixed (by kernel_rfl)) f29_un f29_un_ok [] (fun _ => rfl)
      (fun x ret => f29_eq k  ret)

/- catchpole/catchpolelaw10.alt -/
noncomputable def f19_I : PV × PV → List SV × Obs := fun x => ([.val 27 x.1, .val 27 x.2], [])
noncomputable def f19_D : List SV → Obs → Option (PV × PV)
  | [.val 27 p1, .val 27 p2], [] => some (p1, p2)
  | _, _ => none
theorem f19_D_ok (args : List SV) (B : Obs) (x : PV × PV) (h : f19_D args B = some x) : f19_I x = (args, B) := by
  unfold f19_D at h
  split at h
  · injection h with h; subst h; rfl
  · cases h
noncomputable def f19_O : PV → Out := (fun y => ([.val 27 y], []))
noncomputable def f19_un : Out → Option (PV)
  | ([.val 27 y0], []) => some y0
  | _ => none
theorem f19_un_ok (o : Out) (y : PV) (h : f19_un o = some y) : o = f19_O y := by
  unfold f19_un at h
  split at h
  · injection h with h; subst h; rfl
  · cases h
noncomputable def f19_msk : Nat → Option (List Nat) := fun key =>  none
noncomputable def f19_C : Oracle := orc0
noncomputable def f19_E (k : Nat) : Env := { P := Try.prog, nilOwn := fun d => false, fldOwn := fun d i => false, ownPar := ownPars, ownRet := false, mask := f19_msk, fuel := k, C := f19_C }
noncomputable def f19_code : Code := Try.f19.body.getD .skip
noncomputable def f19_e (ret0 : PV → R) (p1 : PV) (p2 : PV) : R :=
  ret0 (PV.agg [(PV.int 4), (PV.agg [(PV.int 0), (PV.int 0), (PV.int 0), (PV.int 0)]), (PV.int 0), (PV.list [p1, p2])])

theorem f19_e_mem (k : Nat) (retF : PV → R) (p1 : PV) (p2 : PV) : exec (f19_E k) f19_code (endK (f19_E k) Try.f19 [] f19_un retF) ⟨[.val 27 p1, .val 27 p2, .undef, .undef, .undef, .undef, .undef, .undef, .undef], []⟩ = f19_e (fun y0 => retF y0) p1 p2 := by kernel_rfl

noncomputable def f19_N (k : Nat) (ret0 : PV → R) (p1 : PV) (p2 : PV) : R :=
  f19_e ret0 p1 p2
theorem f19_eq (k : Nat) (retF : PV → R) (p1 : PV) (p2 : PV) : exec (f19_E k) f19_code (endK (f19_E k) Try.f19 [] f19_un retF) ⟨[.val 27 p1, .val 27 p2, .undef, .undef, .undef, .undef, .undef, .undef, .undef], []⟩ = f19_N k (fun y0 => retF y0) p1 p2 :=
  (f19_e_mem k retF p1 p2)

noncomputable def G19 : Nat → PV → PV → (PV → R) → R
  | 0, _, _, _ => none
  | k + 1, p1, p2, ret0 => f19_N k  ret0 p1 p2
theorem S19 : ∀ k, Snd Try.prog 19 f19_I f19_O (fun x ret => G19 k x.1 x.2 (fun y0 => ret y0))
  | 0 => snd_none
  | k + 1 => snd_step (E := f19_E k ) rfl laidOut noNums orc0_ok (f := 19) (fn := Try.f19) (code := f19_code) Try.func19 (by kernel_rfl) (drawsOk_of laidOut orc0_ok mixed (by kernel_rfl)) f19_un f19_un_ok [] (fun _ => rfl)
      (fun x ret => f19_eq k  ret x.1 x.2)

/- catchpole/value.Len -/
noncomputable def f23_I : PV → List SV × Obs := fun x => ([.val 30 x], [])
noncomputable def f23_D : List SV → Obs → Option (PV)
  | [.val 30 p1], [] => some p1
  | _, _ => none
theorem f23_D_ok (args : List SV) (B : Obs) (x : PV) (h : f23_D args B = some x) : f23_I x = (args, B) := by
  unfold f23_D at h
  split at h
  · injection h with h; subst h; rfl
  · cases h
noncomputable def f23_O : Int → Out := (fun y => ([.int .i64 y], []))
noncomputable def f23_un : Out → Option (Int)
  | ([.int .i64 y0], []) => some y0
  | _ => none
theorem f23_un_ok (o : Out) (y : Int) (h : f23_un o = some y) : o = f23_O y := by
  unfold f23_un at h
  split at h
  · injection h with h; subst h; rfl
  · cases h
noncomputable def f23_msk : Nat → Option (List Nat) := fun key =>  none
noncomputable def f23_C (c27 : PV → (PV → R) → R) : Oracle := orc 27 f27_D f27_O (fun x ret => c27 x (fun y0 => ret y0)) <| orc0
noncomputable def f23_E (k : Nat) (c27 : PV → (PV → R) → R) : Env := { P := Try.prog, nilOwn := fun d => false, fldOwn := fun d i => false, ownPar := ownPars, ownRet := false, mask := f23_msk, fuel := k, C := f23_C c27 }
noncomputable def f23_code : Code := Try.f23.body.getD .skip
noncomputable def f23_e (c27 : PV → (PV → R) → R) (ret0 : Int → R) (p1 : PV) : R :=
  c27 p1 fun p2 =>
  ret0 (List.length (PV.els p2) : Int)

theorem f23_e_mem (k : Nat) (c27 : PV → (PV → R) → R) (retF : Int → R) (p1 : PV) : exec (f23_E k c27) f23_code (endK (f23_E k c27) Try.f23 [] f23_un retF) ⟨[.val 30 p1, .undef, .undef, .undef, .undef, .undef], []⟩ = f23_e c27 (fun y0 => retF y0) p1 := by kernel_rfl

noncomputable def f23_N (k : Nat) (c27 : PV → (PV → R) → R) (ret0 : Int → R) (p1 : PV) : R :=
  f23_e c27 ret0 p1
theorem f23_eq (k : Nat) (c27 : PV → (PV → R) → R) (retF : Int → R) (p1 : PV) : exec (f23_E k c27) f23_code (endK (f23_E k c27) Try.f23 [] f23_un retF) ⟨[.val 30 p1, .undef, .undef, .undef, .undef, .undef], []⟩ = f23_N k c27 (fun y0 => retF y0) p1 :=
  (f23_e_mem k c27 retF p1)

noncomputable def G23 : Nat → PV → (Int → R) → R
  | 0, _, _ => none
  | k + 1, p1, ret0 => f23_N k (G27 k) ret0 p1
theorem S23 : ∀ k, Snd Try.prog 23 f23_I f23_O (fun x ret => G23 k x (fun y0 => ret y0))
  | 0 => snd_none
  | k + 1 => snd_step (E := f23_E k (G27 k)) rfl laidOut noNums (orc_ok (S27 k).o f27_D_ok orc0_ok) (f := 23) (fn := Try.f23) (code := f23_code) Try.func23 (by kernel_rfl) (drawsOk_of laidOut (orc_ok (S27 k).o f27_D_ok orc0_ok) mixed (by kernel_rfl)) f23_un f23_un_ok [] (fun _ => rfl)
      (fun x ret => f23_eq k (G27 k) ret x)

end Go.Proofs.Ytbellpoahhhmhaa
