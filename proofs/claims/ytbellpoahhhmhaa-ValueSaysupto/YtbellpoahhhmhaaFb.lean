/- Functions of the program as Lean functions, each tied to the program by the kernel: catchpolelaw10.ValueMade, catchpolelaw10.ValueSizes, catchpolelaw10.ValueTexts, catchpolelaw10.ValueSays -/
import Derived.Test.YtbellpoahhhmhaaF
set_option linter.unusedVariables false
set_option maxRecDepth 100000
namespace Go.Proofs.Ytbellpoahhhmhaa
open Go Go.X
/- catchpole/catchpolelaw10.wide -/
noncomputable def f15_I : PV × Int → List SV × Obs := fun x => ([.val 30 x.1, .int .i64 x.2], [])
noncomputable def f15_D : List SV → Obs → Option (PV × Int)
  | [.val 30 p1, .int .i64 n2], [] => some (p1, n2)
  | _, _ => none
theorem f15_D_ok (args : List SV) (B : Obs) (x : PV × Int) (h : f15_D args B = some x) : f15_I x = (args, B) := by
  unfold f15_D at h
  split at h
  · injection h with h; subst h; rfl
  · cases h
noncomputable def f15_O : Bool → Out := (fun y => ([.bool y], []))
noncomputable def f15_un : Out → Option (Bool)
  | ([.bool y0], []) => some y0
  | _ => none
theorem f15_un_ok (o : Out) (y : Bool) (h : f15_un o = some y) : o = f15_O y := by
  unfold f15_un at h
  split at h
  · injection h with h; subst h; rfl
  · cases h
noncomputable def f15_msk : Nat → Option (List Nat) := fun key => bif key == 12 then some [1, 2, 5] else none
noncomputable def f15_C (c15 : PV → Int → (Bool → R) → R) : Oracle := orc 15 f15_D f15_O (fun x ret => c15 x.1 x.2 (fun y0 => ret y0)) <| orc0
noncomputable def f15_E (k : Nat) (c15 : PV → Int → (Bool → R) → R) : Env := { P := Try.prog, nilOwn := fun d => false, fldOwn := fun d i => false, ownPar := ownPars, ownRet := false, mask := f15_msk, fuel := k, C := f15_C c15 }
noncomputable def f15_code : Code := Try.f15.body.getD .skip
noncomputable def f15_cw1 : Code := subC f15_code [1, 1, 0, 1, 0, 0]
noncomputable def f15_hw1_0 (p1 : PV) (n2 : Int) (n4 : Int) : St := ⟨[.dead, .int .i64 n2, .ptr 2 [], .dead, .dead, .int .i64 n4, .dead, .dead, .dead, .dead, .dead, .dead, .dead, .dead, .dead, .dead, .dead, .dead, .dead, .dead, .dead, .dead, .dead, .dead, .dead, .dead, .dead, .dead, .dead], [(2, .box 30 (.val 30 p1))]⟩
noncomputable def f15_w1A (k : Nat) (c15 : PV → Int → (Bool → R) → R) (retF : Bool → R) (p1 : PV) (n2 : Int) (n4 : Int) : R := loopM (f15_E k c15) f15_cw1 (kont (f15_E k c15) f15_code [1, 1, 0, 1, 0] (endK (f15_E k c15) Try.f15 [] f15_un retF)) k (f15_hw1_0 p1 n2 n4)
noncomputable def f15_w1b0 (c15 : PV → Int → (Bool → R) → R) (ret0 : Bool → R) (next_w1_0 : Int → R) (p1 : PV) (n2 : Int) (n4 : Int) : R :=
  bif (decide (n4 < (List.length (PV.els (PV.fld p1 2)) : Int))) then
    bif (true && decide ((0 : Int) ≤ n4) && decide (n4 < (List.length (PV.els (PV.fld p1 2)) : Int))) then
      c15 (List.getD (PV.els (PV.fld p1 2)) (n4).toNat PV.nil) (IntKind.wrap .i64 (n2 - (1 : Int))) fun b5 =>
      bif b5 then
        ret0 true
      else next_w1_0 (IntKind.wrap .i64 (n4 + (1 : Int)))
    else none
  else ret0 false

theorem f15_w1b0_mem (k : Nat) (c15 : PV → Int → (Bool → R) → R) (retF : Bool → R) (NX_w1 : St → R) (p1 : PV) (n2 : Int) (n4 : Int) : exec (f15_E k c15) f15_cw1 (purgeK (f15_E k c15) f15_cw1 (loopK NX_w1 (kont (f15_E k c15) f15_code [1, 1, 0, 1, 0] (endK (f15_E k c15) Try.f15 [] f15_un retF)))) (f15_hw1_0 p1 n2 n4) = f15_w1b0 c15 (fun y0 => retF y0) (fun n4 => NX_w1 (f15_hw1_0 p1 n2 n4)) p1 n2 n4 := by kernel_rfl

noncomputable def f15_w1b0N (k : Nat) (c15 : PV → Int → (Bool → R) → R) (ret0 : Bool → R) (next_w1_0 : Int → R) (p1 : PV) (n2 : Int) (n4 : Int) : R :=
  f15_w1b0 c15 ret0 next_w1_0 p1 n2 n4
theorem f15_w1b0_eq (k : Nat) (c15 : PV → Int → (Bool → R) → R) (retF : Bool → R) (NX_w1 : St → R) (p1 : PV) (n2 : Int) (n4 : Int) : exec (f15_E k c15) f15_cw1 (purgeK (f15_E k c15) f15_cw1 (loopK NX_w1 (kont (f15_E k c15) f15_code [1, 1, 0, 1, 0] (endK (f15_E k c15) Try.f15 [] f15_un retF)))) (f15_hw1_0 p1 n2 n4) = f15_w1b0N k c15 (fun y0 => retF y0) (fun n4 => NX_w1 (f15_hw1_0 p1 n2 n4)) p1 n2 n4 :=
  (f15_w1b0_mem k c15 retF NX_w1 p1 n2 n4)

noncomputable def f15_w1B (k : Nat) (c15 : PV → Int → (Bool → R) → R) (ret0 : Bool → R) (p1 : PV) (n2 : Int) (nx : Int → R) : Int → R := (fun s => f15_w1b0N k c15 ret0 (fun n4 => nx n4) p1 n2 s)
noncomputable def f15_w1N (k : Nat) (c15 : PV → Int → (Bool → R) → R) (ret0 : Bool → R) (p1 : PV) (n2 : Int) (n4 : Int) : R := loopR (f15_w1B k c15 ret0 p1 n2) k n4
theorem f15_w1_eq (k : Nat) (c15 : PV → Int → (Bool → R) → R) (retF : Bool → R) (p1 : PV) (n2 : Int) (n4 : Int) : f15_w1A k c15 retF p1 n2 n4 = f15_w1N k c15 (fun y0 => retF y0) p1 n2 n4 :=
  Eq.mp (by kernel_rfl) (loop_sim (E := (f15_E k c15)) (c := f15_cw1) (K := (kont (f15_E k c15) f15_code [1, 1, 0, 1, 0] (endK (f15_E k c15) Try.f15 [] f15_un retF))) (S := Int) (fun s => f15_hw1_0 p1 n2 s) (f15_w1B k c15 (fun y0 => retF y0) p1 n2) (fun NX s => by
    exact Eq.mp (by kernel_rfl) (f15_w1b0_eq k c15 retF NX p1 n2 s)) k n4)

noncomputable def f15_e (c15 : PV → Int → (Bool → R) → R) (ret0 : Bool → R) (w1 : Int → R) (p1 : PV) (n2 : Int) : R :=
  bif ((decide (n2 < (1 : Int))) == false) then
    bif (decide ((30 : Int) < (List.length (PV.els (PV.fld p1 2)) : Int))) then
      ret0 true
    else w1 0
  else ret0 true

theorem f15_e_mem (k : Nat) (c15 : PV → Int → (Bool → R) → R) (retF : Bool → R) (p1 : PV) (n2 : Int) : exec (f15_E k c15) f15_code (endK (f15_E k c15) Try.f15 [] f15_un retF) ⟨[.val 30 p1, .int .i64 n2, .undef, .undef, .undef, .undef, .undef, .undef, .undef, .undef, .undef, .undef, .undef, .undef, .undef, .undef, .undef, .undef, .undef, .undef, .undef, .undef, .undef, .undef, .undef, .undef, .undef, .undef, .undef], []⟩ = f15_e c15 (fun y0 => retF y0) (fun n4 => f15_w1A k c15 retF p1 n2 n4) p1 n2 := by kernel_rfl

noncomputable def f15_N (k : Nat) (c15 : PV → Int → (Bool → R) → R) (ret0 : Bool → R) (p1 : PV) (n2 : Int) : R :=
  f15_e c15 ret0 (fun n4 => f15_w1N k c15 ret0 p1 n2 n4) p1 n2
theorem f15_eq (k : Nat) (c15 : PV → Int → (Bool → R) → R) (retF : Bool → R) (p1 : PV) (n2 : Int) : exec (f15_E k c15) f15_code (endK (f15_E k c15) Try.f15 [] f15_un retF) ⟨[.val 30 p1, .int .i64 n2, .undef, .undef, .undef, .undef, .undef, .undef, .undef, .undef, .undef, .undef, .undef, .undef, .undef, .undef, .undef, .undef, .undef, .undef, .undef, .undef, .undef, .undef, .undef, .undef, .undef, .undef, .undef], []⟩ = f15_N k c15 (fun y0 => retF y0) p1 n2 :=
  (f15_e_mem k c15 retF p1 n2).trans (by rw [show (fun n4 => f15_w1A k c15 retF p1 n2 n4) = (fun n4 => f15_w1N k c15 (fun y0 => retF y0) p1 n2 n4) from funext fun n4 => f15_w1_eq k c15 retF p1 n2 n4]; rfl)

noncomputable def G15 : Nat → PV → Int → (Bool → R) → R
  | 0, _, _, _ => none
  | k + 1, p1, n2, ret0 => f15_N k (G15 k) ret0 p1 n2
theorem S15 : ∀ k, Snd Try.prog 15 f15_I f15_O (fun x ret => G15 k x.1 x.2 (fun y0 => ret y0))
  | 0 => snd_none
  | k + 1 => snd_step (E := f15_E k (G15 k)) rfl laidOut noNums (orc_ok (S15 k).o f15_D_ok orc0_ok) (f := 15) (fn := Try.f15) (code := f15_code) Try.func15 (by kernel_rfl) (drawsOk_of laidOut (orc_ok (S15 k).o f15_D_ok orc0_ok) mixed (by kernel_rfl)) f15_un f15_un_ok [] (fun _ => rfl)
      (fun x ret => f15_eq k (G15 k) ret x.1 x.2)

/- catchpole/catchpolelaw10.alt -/
noncomputable def f19_I : PV × PV → List SV × Obs := fun x => ([.val 27 x.1, .val 27 x.2], [])
noncomputable def f19_D : List SV → Obs → Option (PV × PV)
  | [.val 27 p1, .val 27 p2], [] => some (p1, p2)
  | _, _ => none
theorem f19_D_ok (args : List SV) (B : Obs) (x : PV × PV) (h : f19_D args B = some x) : f19_I x = (args, B) := by
  unfold f19_D at h
  split at h
  · injection h with h; subst h; rfl
  · cases h
noncomputable def f19_O : PV → Out := (fun y => ([.val 27 y], []))
noncomputable def f19_un : Out → Option (PV)
  | ([.val 27 y0], []) => some y0
  | _ => none
theorem f19_un_ok (o : Out) (y : PV) (h : f19_un o = some y) : o = f19_O y := by
  unfold f19_un at h
  split at h
  · injection h with h; subst h; rfl
  · cases h
noncomputable def f19_msk : Nat → Option (List Nat) := fun key =>  none
noncomputable def f19_C : Oracle := orc0
noncomputable def f19_E (k : Nat) : Env := { P := Try.prog, nilOwn := fun d => false, fldOwn := fun d i => false, ownPar := ownPars, ownRet := false, mask := f19_msk, fuel := k, C := f19_C }
noncomputable def f19_code : Code := Try.f19.body.getD .skip
noncomputable def f19_e (ret0 : PV → R) (p1 : PV) (p2 : PV) : R :=
  ret0 (PV.agg [(PV.int 4), (PV.agg [(PV.int 0), (PV.int 0), (PV.int 0), (PV.int 0)]), (PV.int 0), (PV.list [p1, p2])])

theorem f19_e_mem (k : Nat) (retF : PV → R) (p1 : PV) (p2 : PV) : exec (f19_E k) f19_code (endK (f19_E k) Try.f19 [] f19_un retF) ⟨[.val 27 p1, .val 27 p2, .undef, .undef, .undef, .undef, .undef, .undef, .undef], []⟩ = f19_e (fun y0 => retF y0) p1 p2 := by kernel_rfl

noncomputable def f19_N (k : Nat) (ret0 : PV → R) (p1 : PV) (p2 : PV) : R :=
  f19_e ret0 p1 p2
theorem f19_eq (k : Nat) (retF : PV → R) (p1 : PV) (p2 : PV) : exec (f19_E k) f19_code (endK (f19_E k) Try.f19 [] f19_un retF) ⟨[.val 27 p1, .val 27 p2, .undef, .undef, .undef, .undef, .undef, .undef, .undef], []⟩ = f19_N k (fun y0 => retF y0) p1 p2 :=
  (f19_e_mem k retF p1 p2)

noncomputable def G19 : Nat → PV → PV → (PV → R) → R
  | 0, _, _, _ => none
  | k + 1, p1, p2, ret0 => f19_N k  ret0 p1 p2
theorem S19 : ∀ k, Snd Try.prog 19 f19_I f19_O (fun x ret => G19 k x.1 x.2 (fun y0 => ret y0))
  | 0 => snd_none
  | k + 1 => snd_step (E := f19_E k ) rfl laidOut noNums orc0_ok (f := 19) (fn := Try.f19) (code := f19_code) Try.func19 (by kernel_rfl) (drawsOk_of laidOut orc0_ok mixed (by kernel_rfl)) f19_un f19_un_ok [] (fun _ => rfl)
      (fun x ret => f19_eq k  ret x.1 x.2)

/- catchpole/catchpolelaw10.star -/
noncomputable def f20_I : PV → List SV × Obs := fun x => ([.val 27 x], [])
noncomputable def f20_D : List SV → Obs → Option (PV)
  | [.val 27 p1], [] => some p1
  | _, _ => none
theorem f20_D_ok (args : List SV) (B : Obs) (x : PV) (h : f20_D args B = some x) : f20_I x = (args, B) := by
  unfold f20_D at h
  split at h
  · injection h with h; subst h; rfl
  · cases h
noncomputable def f20_O : PV → Out := (fun y => ([.val 27 y], []))
noncomputable def f20_un : Out → Option (PV)
  | ([.val 27 y0], []) => some y0
  | _ => none
theorem f20_un_ok (o : Out) (y : PV) (h : f20_un o = some y) : o = f20_O y := by
  unfold f20_un at h
  split at h
  · injection h with h; subst h; rfl
  · cases h
noncomputable def f20_msk : Nat → Option (List Nat) := fun key =>  none
noncomputable def f20_C : Oracle := orc0
noncomputable def f20_E (k : Nat) : Env := { P := Try.prog, nilOwn := fun d => false, fldOwn := fun d i => false, ownPar := ownPars, ownRet := false, mask := f20_msk, fuel := k, C := f20_C }
noncomputable def f20_code : Code := Try.f20.body.getD .skip
noncomputable def f20_e (ret0 : PV → R) (p1 : PV) : R :=
  ret0 (PV.agg [(PV.int 5), (PV.agg [(PV.int 0), (PV.int 0), (PV.int 0), (PV.int 0)]), (PV.int 0), (PV.list [p1])])

theorem f20_e_mem (k : Nat) (retF : PV → R) (p1 : PV) : exec (f20_E k) f20_code (endK (f20_E k) Try.f20 [] f20_un retF) ⟨[.val 27 p1, .undef, .undef, .undef, .undef, .undef], []⟩ = f20_e (fun y0 => retF y0) p1 := by kernel_rfl

noncomputable def f20_N (k : Nat) (ret0 : PV → R) (p1 : PV) : R :=
  f20_e ret0 p1
theorem f20_eq (k : Nat) (retF : PV → R) (p1 : PV) : exec (f20_E k) f20_code (endK (f20_E k) Try.f20 [] f20_un retF) ⟨[.val 27 p1, .undef, .undef, .undef, .undef, .undef], []⟩ = f20_N k (fun y0 => retF y0) p1 :=
  (f20_e_mem k retF p1)

noncomputable def G20 : Nat → PV → (PV → R) → R
  | 0, _, _ => none
  | k + 1, p1, ret0 => f20_N k  ret0 p1
theorem S20 : ∀ k, Snd Try.prog 20 f20_I f20_O (fun x ret => G20 k x (fun y0 => ret y0))
  | 0 => snd_none
  | k + 1 => snd_step (E := f20_E k ) rfl laidOut noNums orc0_ok (f := 20) (fn := Try.f20) (code := f20_code) Try.func20 (by kernel_rfl) (drawsOk_of laidOut orc0_ok mixed (by kernel_rfl)) f20_un f20_un_ok [] (fun _ => rfl)
      (fun x ret => f20_eq k  ret x)

/- catchpole/catchpolelaw10.grp -/
noncomputable def f21_I : Int × PV → List SV × Obs := fun x => ([.int .i64 x.1, .val 27 x.2], [])
noncomputable def f21_D : List SV → Obs → Option (Int × PV)
  | [.int .i64 n1, .val 27 p2], [] => some (n1, p2)
  | _, _ => none
theorem f21_D_ok (args : List SV) (B : Obs) (x : Int × PV) (h : f21_D args B = some x) : f21_I x = (args, B) := by
  unfold f21_D at h
  split at h
  · injection h with h; subst h; rfl
  · cases h
noncomputable def f21_O : PV → Out := (fun y => ([.val 27 y], []))
noncomputable def f21_un : Out → Option (PV)
  | ([.val 27 y0], []) => some y0
  | _ => none
theorem f21_un_ok (o : Out) (y : PV) (h : f21_un o = some y) : o = f21_O y := by
  unfold f21_un at h
  split at h
  · injection h with h; subst h; rfl
  · cases h
noncomputable def f21_msk : Nat → Option (List Nat) := fun key =>  none
noncomputable def f21_C : Oracle := orc0
noncomputable def f21_E (k : Nat) : Env := { P := Try.prog, nilOwn := fun d => false, fldOwn := fun d i => false, ownPar := ownPars, ownRet := false, mask := f21_msk, fuel := k, C := f21_C }
noncomputable def f21_code : Code := Try.f21.body.getD .skip
noncomputable def f21_e (ret0 : PV → R) (n1 : Int) (p2 : PV) : R :=
  ret0 (PV.agg [(PV.int 6), (PV.agg [(PV.int 0), (PV.int 0), (PV.int 0), (PV.int 0)]), (PV.int n1), (PV.list [p2])])

theorem f21_e_mem (k : Nat) (retF : PV → R) (n1 : Int) (p2 : PV) : exec (f21_E k) f21_code (endK (f21_E k) Try.f21 [] f21_un retF) ⟨[.int .i64 n1, .val 27 p2, .undef, .undef, .undef, .undef, .undef, .undef, .undef], []⟩ = f21_e (fun y0 => retF y0) n1 p2 := by kernel_rfl

noncomputable def f21_N (k : Nat) (ret0 : PV → R) (n1 : Int) (p2 : PV) : R :=
  f21_e ret0 n1 p2
theorem f21_eq (k : Nat) (retF : PV → R) (n1 : Int) (p2 : PV) : exec (f21_E k) f21_code (endK (f21_E k) Try.f21 [] f21_un retF) ⟨[.int .i64 n1, .val 27 p2, .undef, .undef, .undef, .undef, .undef, .undef, .undef], []⟩ = f21_N k (fun y0 => retF y0) n1 p2 :=
  (f21_e_mem k retF n1 p2)

noncomputable def G21 : Nat → Int → PV → (PV → R) → R
  | 0, _, _, _ => none
  | k + 1, n1, p2, ret0 => f21_N k  ret0 n1 p2
theorem S21 : ∀ k, Snd Try.prog 21 f21_I f21_O (fun x ret => G21 k x.1 x.2 (fun y0 => ret y0))
  | 0 => snd_none
  | k + 1 => snd_step (E := f21_E k ) rfl laidOut noNums orc0_ok (f := 21) (fn := Try.f21) (code := f21_code) Try.func21 (by kernel_rfl) (drawsOk_of laidOut orc0_ok mixed (by kernel_rfl)) f21_un f21_un_ok [] (fun _ => rfl)
      (fun x ret => f21_eq k  ret x.1 x.2)

/- catchpole/catchpolelaw10.anew -/
noncomputable def f22_I : PV → List SV × Obs := fun x => ([.val 27 x], [])
noncomputable def f22_D : List SV → Obs → Option (PV)
  | [.val 27 p1], [] => some p1
  | _, _ => none
theorem f22_D_ok (args : List SV) (B : Obs) (x : PV) (h : f22_D args B = some x) : f22_I x = (args, B) := by
  unfold f22_D at h
  split at h
  · injection h with h; subst h; rfl
  · cases h
noncomputable def f22_O : PV → Out := (fun y => ([.val 27 y], []))
noncomputable def f22_un : Out → Option (PV)
  | ([.val 27 y0], []) => some y0
  | _ => none
theorem f22_un_ok (o : Out) (y : PV) (h : f22_un o = some y) : o = f22_O y := by
  unfold f22_un at h
  split at h
  · injection h with h; subst h; rfl
  · cases h
noncomputable def f22_msk : Nat → Option (List Nat) := fun key =>  none
noncomputable def f22_C : Oracle := orc0
noncomputable def f22_E (k : Nat) : Env := { P := Try.prog, nilOwn := fun d => false, fldOwn := fun d i => false, ownPar := ownPars, ownRet := false, mask := f22_msk, fuel := k, C := f22_C }
noncomputable def f22_code : Code := Try.f22.body.getD .skip
noncomputable def f22_e (ret0 : PV → R) (p1 : PV) : R :=
  ret0 (PV.agg [(PV.int 7), (PV.agg [(PV.int 0), (PV.int 0), (PV.int 0), (PV.int 0)]), (PV.int 0), (PV.list [p1])])

theorem f22_e_mem (k : Nat) (retF : PV → R) (p1 : PV) : exec (f22_E k) f22_code (endK (f22_E k) Try.f22 [] f22_un retF) ⟨[.val 27 p1, .undef, .undef, .undef, .undef, .undef], []⟩ = f22_e (fun y0 => retF y0) p1 := by kernel_rfl

noncomputable def f22_N (k : Nat) (ret0 : PV → R) (p1 : PV) : R :=
  f22_e ret0 p1
theorem f22_eq (k : Nat) (retF : PV → R) (p1 : PV) : exec (f22_E k) f22_code (endK (f22_E k) Try.f22 [] f22_un retF) ⟨[.val 27 p1, .undef, .undef, .undef, .undef, .undef], []⟩ = f22_N k (fun y0 => retF y0) p1 :=
  (f22_e_mem k retF p1)

noncomputable def G22 : Nat → PV → (PV → R) → R
  | 0, _, _ => none
  | k + 1, p1, ret0 => f22_N k  ret0 p1
theorem S22 : ∀ k, Snd Try.prog 22 f22_I f22_O (fun x ret => G22 k x (fun y0 => ret y0))
  | 0 => snd_none
  | k + 1 => snd_step (E := f22_E k ) rfl laidOut noNums orc0_ok (f := 22) (fn := Try.f22) (code := f22_code) Try.func22 (by kernel_rfl) (drawsOk_of laidOut orc0_ok mixed (by kernel_rfl)) f22_un f22_un_ok [] (fun _ => rfl)
      (fun x ret => f22_eq k  ret x)

/- catchpole/value.Len -/
noncomputable def f23_I : PV → List SV × Obs := fun x => ([.val 30 x], [])
noncomputable def f23_D : List SV → Obs → Option (PV)
  | [.val 30 p1], [] => some p1
  | _, _ => none
theorem f23_D_ok (args : List SV) (B : Obs) (x : PV) (h : f23_D args B = some x) : f23_I x = (args, B) := by
  unfold f23_D at h
  split at h
  · injection h with h; subst h; rfl
  · cases h
noncomputable def f23_O : Int → Out := (fun y => ([.int .i64 y], []))
noncomputable def f23_un : Out → Option (Int)
  | ([.int .i64 y0], []) => some y0
  | _ => none
theorem f23_un_ok (o : Out) (y : Int) (h : f23_un o = some y) : o = f23_O y := by
  unfold f23_un at h
  split at h
  · injection h with h; subst h; rfl
  · cases h
noncomputable def f23_msk : Nat → Option (List Nat) := fun key =>  none
noncomputable def f23_C (c27 : PV → (PV → R) → R) : Oracle := orc 27 f27_D f27_O (fun x ret => c27 x (fun y0 => ret y0)) <| orc0
noncomputable def f23_E (k : Nat) (c27 : PV → (PV → R) → R) : Env := { P := Try.prog, nilOwn := fun d => false, fldOwn := fun d i => false, ownPar := ownPars, ownRet := false, mask := f23_msk, fuel := k, C := f23_C c27 }
noncomputable def f23_code : Code := Try.f23.body.getD .skip
noncomputable def f23_e (c27 : PV → (PV → R) → R) (ret0 : Int → R) (p1 : PV) : R :=
  c27 p1 fun p2 =>
  ret0 (List.length (PV.els p2) : Int)

theorem f23_e_mem (k : Nat) (c27 : PV → (PV → R) → R) (retF : Int → R) (p1 : PV) : exec (f23_E k c27) f23_code (endK (f23_E k c27) Try.f23 [] f23_un retF) ⟨[.val 30 p1, .undef, .undef, .undef, .undef, .undef], []⟩ = f23_e c27 (fun y0 => retF y0) p1 := by kernel_rfl

noncomputable def f23_N (k : Nat) (c27 : PV → (PV → R) → R) (ret0 : Int → R) (p1 : PV) : R :=
  f23_e c27 ret0 p1
theorem f23_eq (k : Nat) (c27 : PV → (PV → R) → R) (retF : Int → R) (p1 : PV) : exec (f23_E k c27) f23_code (endK (f23_E k c27) Try.f23 [] f23_un retF) ⟨[.val 30 p1, .undef, .undef, .undef, .undef, .undef], []⟩ = f23_N k c27 (fun y0 => retF y0) p1 :=
  (f23_e_mem k c27 retF p1)

noncomputable def G23 : Nat → PV → (Int → R) → R
  | 0, _, _ => none
  | k + 1, p1, ret0 => f23_N k (G27 k) ret0 p1
theorem S23 : ∀ k, Snd Try.prog 23 f23_I f23_O (fun x ret => G23 k x (fun y0 => ret y0))
  | 0 => snd_none
  | k + 1 => snd_step (E := f23_E k (G27 k)) rfl laidOut noNums (orc_ok (S27 k).o f27_D_ok orc0_ok) (f := 23) (fn := Try.f23) (code := f23_code) Try.func23 (by kernel_rfl) (drawsOk_of laidOut (orc_ok (S27 k).o f27_D_ok orc0_ok) mixed (by kernel_rfl)) f23_un f23_un_ok [] (fun _ => rfl)
      (fun x ret => f23_eq k (G27 k) ret x)

/- catchpole/catchpolelaw10.ValueMade -/
noncomputable def f3_I : PV × PV × PV × PV → List SV × Obs := fun x => ([.val 27 x.1, .val 27 x.2.1, .val 30 x.2.2.1, .val 30 x.2.2.2], [])
noncomputable def f3_D : List SV → Obs → Option (PV × PV × PV × PV)
  | [.val 27 p1, .val 27 p2, .val 30 p3, .val 30 p4], [] => some (p1, p2, p3, p4)
  | _, _ => none
theorem f3_D_ok (args : List SV) (B : Obs) (x : PV × PV × PV × PV) (h : f3_D args B = some x) : f3_I x = (args, B) := by
  unfold f3_D at h
  split at h
  · injection h with h; subst h; rfl
  · cases h
noncomputable def f3_O : Bool → Out := (fun y => ([.bool y], []))
noncomputable def f3_un : Out → Option (Bool)
  | ([.bool y0], []) => some y0
  | _ => none
theorem f3_un_ok (o : Out) (y : Bool) (h : f3_un o = some y) : o = f3_O y := by
  unfold f3_un at h
  split at h
  · injection h with h; subst h; rfl
  · cases h
noncomputable def f3_msk : Nat → Option (List Nat) := fun key =>  none
noncomputable def f3_C (c13 : (Bool → R) → R) (c14 : PV → Int → (Bool → R) → R) (c15 : PV → Int → (Bool → R) → R) (c16 : PV → (Bool → R) → R) (c17 : PV → PV → (PV → R) → R) (c18 : PV → PV → (Bool → R) → R) (c19 : PV → PV → (PV → R) → R) (c20 : PV → (PV → R) → R) (c21 : Int → PV → (PV → R) → R) (c22 : PV → (PV → R) → R) (c23 : PV → (Int → R) → R) : Oracle := orc 13 f13_D f13_O (fun x ret => c13 (fun y0 => ret y0)) <| orc 14 f14_D f14_O (fun x ret => c14 x.1 x.2 (fun y0 => ret y0)) <| orc 15 f15_D f15_O (fun x ret => c15 x.1 x.2 (fun y0 => ret y0)) <| orc 16 f16_D f16_O (fun x ret => c16 x (fun y0 => ret y0)) <| orc 17 f17_D f17_O (fun x ret => c17 x.1 x.2 (fun y0 => ret y0)) <| orc 18 f18_D f18_O (fun x ret => c18 x.1 x.2 (fun y0 => ret y0)) <| orc 19 f19_D f19_O (fun x ret => c19 x.1 x.2 (fun y0 => ret y0)) <| orc 20 f20_D f20_O (fun x ret => c20 x (fun y0 => ret y0)) <| orc 21 f21_D f21_O (fun x ret => c21 x.1 x.2 (fun y0 => ret y0)) <| orc 22 f22_D f22_O (fun x ret => c22 x (fun y0 => ret y0)) <| orc 23 f23_D f23_O (fun x ret => c23 x (fun y0 => ret y0)) <| orc0
noncomputable def f3_E (k : Nat) (c13 : (Bool → R) → R) (c14 : PV → Int → (Bool → R) → R) (c15 : PV → Int → (Bool → R) → R) (c16 : PV → (Bool → R) → R) (c17 : PV → PV → (PV → R) → R) (c18 : PV → PV → (Bool → R) → R) (c19 : PV → PV → (PV → R) → R) (c20 : PV → (PV → R) → R) (c21 : Int → PV → (PV → R) → R) (c22 : PV → (PV → R) → R) (c23 : PV → (Int → R) → R) : Env := { P := Try.prog, nilOwn := fun d => false, fldOwn := fun d i => false, ownPar := ownPars, ownRet := false, mask := f3_msk, fuel := k, C := f3_C c13 c14 c15 c16 c17 c18 c19 c20 c21 c22 c23 }
noncomputable def f3_code : Code := Try.f3.body.getD .skip
noncomputable def f3_e (c13 : (Bool → R) → R) (c14 : PV → Int → (Bool → R) → R) (c15 : PV → Int → (Bool → R) → R) (c16 : PV → (Bool → R) → R) (c17 : PV → PV → (PV → R) → R) (c18 : PV → PV → (Bool → R) → R) (c19 : PV → PV → (PV → R) → R) (c20 : PV → (PV → R) → R) (c21 : Int → PV → (PV → R) → R) (c22 : PV → (PV → R) → R) (c23 : PV → (Int → R) → R) (ret0 : Bool → R) (p1 : PV) (p2 : PV) (p3 : PV) (p4 : PV) : R :=
  c13 fun b5 =>
  bif (!b5) then
    ret0 false
  else c14 p1 60 fun b6 =>
  bif (b6 == false) then
    c14 p2 60 fun b7 =>
    bif (b7 == false) then
      c15 p3 30 fun b8 =>
      bif (b8 == false) then
        c15 p4 30 fun b9 =>
        bif (b9 == false) then
          c17 p1 p2 fun p10 =>
          c16 p10 fun b11 =>
          bif (!b11) then
            ret0 true
          else c18 p1 p3 fun b12 =>
          c18 p2 p4 fun b13 =>
          c17 p1 p2 fun p14 =>
          c18 p14 (PV.agg [(PV.int 3), (PV.int 0), (PV.list [p3, p4])]) fun b15 =>
          bif (b12 == true) then
            bif ((b15 == b13) == true) then
              c19 p1 p2 fun p16 =>
              c18 p16 (PV.agg [(PV.int 4), (PV.int 0), (PV.list [p3])]) fun b17 =>
              bif ((b17 == b12) == true) then
                c19 p1 p2 fun p18 =>
                c18 p18 (PV.agg [(PV.int 5), (PV.int 0), (PV.list [p4])]) fun b19 =>
                bif ((b19 == b13) == true) then
                  c20 p1 fun p20 =>
                  c18 p20 (PV.agg [(PV.int 6), (PV.int 0), (PV.list [p3, p3])]) fun b21 =>
                  bif ((b21 == b12) == true) then
                    c21 1 p1 fun p22 =>
                    c18 p22 (PV.agg [(PV.int 7), (PV.int 0), (PV.list [p3])]) fun b23 =>
                    bif ((b23 == b12) == true) then
                      c22 p1 fun p24 =>
                      c18 p24 p3 fun b25 =>
                      bif ((b25 == b12) == true) then
                        c23 (PV.agg [(PV.int 3), (PV.int 0), (PV.list [p3, p4])]) fun n26 =>
                        c23 p3 fun n27 =>
                        c23 p4 fun n28 =>
                        ret0 (decide (n26 = (IntKind.wrap .i64 (n27 + n28))))
                      else ret0 false
                    else ret0 false
                  else ret0 false
                else ret0 false
              else ret0 false
            else ret0 false
          else bif ((b15 == false) == true) then
            c19 p1 p2 fun p29 =>
            c18 p29 (PV.agg [(PV.int 4), (PV.int 0), (PV.list [p3])]) fun b30 =>
            bif ((b30 == b12) == true) then
              c19 p1 p2 fun p31 =>
              c18 p31 (PV.agg [(PV.int 5), (PV.int 0), (PV.list [p4])]) fun b32 =>
              bif ((b32 == b13) == true) then
                c20 p1 fun p33 =>
                c18 p33 (PV.agg [(PV.int 6), (PV.int 0), (PV.list [p3, p3])]) fun b34 =>
                bif ((b34 == b12) == true) then
                  c21 1 p1 fun p35 =>
                  c18 p35 (PV.agg [(PV.int 7), (PV.int 0), (PV.list [p3])]) fun b36 =>
                  bif ((b36 == b12) == true) then
                    c22 p1 fun p37 =>
                    c18 p37 p3 fun b38 =>
                    bif ((b38 == b12) == true) then
                      c23 (PV.agg [(PV.int 3), (PV.int 0), (PV.list [p3, p4])]) fun n39 =>
                      c23 p3 fun n40 =>
                      c23 p4 fun n41 =>
                      ret0 (decide (n39 = (IntKind.wrap .i64 (n40 + n41))))
                    else ret0 false
                  else ret0 false
                else ret0 false
              else ret0 false
            else ret0 false
          else ret0 false
        else ret0 true
      else ret0 true
    else ret0 true
  else ret0 true

theorem f3_e_mem (k : Nat) (c13 : (Bool → R) → R) (c14 : PV → Int → (Bool → R) → R) (c15 : PV → Int → (Bool → R) → R) (c16 : PV → (Bool → R) → R) (c17 : PV → PV → (PV → R) → R) (c18 : PV → PV → (Bool → R) → R) (c19 : PV → PV → (PV → R) → R) (c20 : PV → (PV → R) → R) (c21 : Int → PV → (PV → R) → R) (c22 : PV → (PV → R) → R) (c23 : PV → (Int → R) → R) (retF : Bool → R) (p1 : PV) (p2 : PV) (p3 : PV) (p4 : PV) : exec (f3_E k c13 c14 c15 c16 c17 c18 c19 c20 c21 c22 c23) f3_code (endK (f3_E k c13 c14 c15 c16 c17 c18 c19 c20 c21 c22 c23) Try.f3 [] f3_un retF) ⟨[.val 27 p1, .val 27 p2, .val 30 p3, .val 30 p4, .undef, .undef, .undef, .undef, .undef, .undef, .undef, .undef, .undef, .undef, .undef, .undef, .undef, .undef, .undef, .undef, .undef, .undef, .undef, .undef, .undef, .undef, .undef, .undef, .undef, .undef, .undef, .undef, .undef, .undef, .undef, .undef, .undef, .undef, .undef, .undef, .undef, .undef, .undef, .undef, .undef, .undef, .undef, .undef, .undef, .undef, .undef, .undef, .undef, .undef, .undef, .undef, .undef, .undef, .undef, .undef, .undef, .undef, .undef, .undef, .undef, .undef, .undef, .undef, .undef, .undef, .undef, .undef, .undef, .undef, .undef, .undef, .undef, .undef, .undef, .undef, .undef, .undef, .undef, .undef, .undef, .undef, .undef, .undef, .undef, .undef, .undef, .undef, .undef, .undef, .undef, .undef, .undef, .undef, .undef, .undef, .undef, .undef, .undef, .undef, .undef, .undef, .undef, .undef, .undef, .undef, .undef, .undef, .undef, .undef, .undef, .undef], []⟩ = f3_e c13 c14 c15 c16 c17 c18 c19 c20 c21 c22 c23 (fun y0 => retF y0) p1 p2 p3 p4 := by kernel_rfl

noncomputable def f3_N (k : Nat) (c13 : (Bool → R) → R) (c14 : PV → Int → (Bool → R) → R) (c15 : PV → Int → (Bool → R) → R) (c16 : PV → (Bool → R) → R) (c17 : PV → PV → (PV → R) → R) (c18 : PV → PV → (Bool → R) → R) (c19 : PV → PV → (PV → R) → R) (c20 : PV → (PV → R) → R) (c21 : Int → PV → (PV → R) → R) (c22 : PV → (PV → R) → R) (c23 : PV → (Int → R) → R) (ret0 : Bool → R) (p1 : PV) (p2 : PV) (p3 : PV) (p4 : PV) : R :=
  f3_e c13 c14 c15 c16 c17 c18 c19 c20 c21 c22 c23 ret0 p1 p2 p3 p4
theorem f3_eq (k : Nat) (c13 : (Bool → R) → R) (c14 : PV → Int → (Bool → R) → R) (c15 : PV → Int → (Bool → R) → R) (c16 : PV → (Bool → R) → R) (c17 : PV → PV → (PV → R) → R) (c18 : PV → PV → (Bool → R) → R) (c19 : PV → PV → (PV → R) → R) (c20 : PV → (PV → R) → R) (c21 : Int → PV → (PV → R) → R) (c22 : PV → (PV → R) → R) (c23 : PV → (Int → R) → R) (retF : Bool → R) (p1 : PV) (p2 : PV) (p3 : PV) (p4 : PV) : exec (f3_E k c13 c14 c15 c16 c17 c18 c19 c20 c21 c22 c23) f3_code (endK (f3_E k c13 c14 c15 c16 c17 c18 c19 c20 c21 c22 c23) Try.f3 [] f3_un retF) ⟨[.val 27 p1, .val 27 p2, .val 30 p3, .val 30 p4, .undef, .undef, .undef, .undef, .undef, .undef, .undef, .undef, .undef, .undef, .undef, .undef, .undef, .undef, .undef, .undef, .undef, .undef, .undef, .undef, .undef, .undef, .undef, .undef, .undef, .undef, .undef, .undef, .undef, .undef, .undef, .undef, .undef, .undef, .undef, .undef, .undef, .undef, .undef, .undef, .undef, .undef, .undef, .undef, .undef, .undef, .undef, .undef, .undef, .undef, .undef, .undef, .undef, .undef, .undef, .undef, .undef, .undef, .undef, .undef, .undef, .undef, .undef, .undef, .undef, .undef, .undef, .undef, .undef, .undef, .undef, .undef, .undef, .undef, .undef, .undef, .undef, .undef, .undef, .undef, .undef, .undef, .undef, .undef, .undef, .undef, .undef, .undef, .undef, .undef, .undef, .undef, .undef, .undef, .undef, .undef, .undef, .undef, .undef, .undef, .undef, .undef, .undef, .undef, .undef, .undef, .undef, .undef, .undef, .undef, .undef, .undef], []⟩ = f3_N k c13 c14 c15 c16 c17 c18 c19 c20 c21 c22 c23 (fun y0 => retF y0) p1 p2 p3 p4 :=
  (f3_e_mem k c13 c14 c15 c16 c17 c18 c19 c20 c21 c22 c23 retF p1 p2 p3 p4)

noncomputable def G3 : Nat → PV → PV → PV → PV → (Bool → R) → R
  | 0, _, _, _, _, _ => none
  | k + 1, p1, p2, p3, p4, ret0 => f3_N k (G13 k) (G14 k) (G15 k) (G16 k) (G17 k) (G18 k) (G19 k) (G20 k) (G21 k) (G22 k) (G23 k) ret0 p1 p2 p3 p4
theorem S3 : ∀ k, Snd Try.prog 3 f3_I f3_O (fun x ret => G3 k x.1 x.2.1 x.2.2.1 x.2.2.2 (fun y0 => ret y0))
  | 0 => snd_none
  | k + 1 => snd_step (E := f3_E k (G13 k) (G14 k) (G15 k) (G16 k) (G17 k) (G18 k) (G19 k) (G20 k) (G21 k) (G22 k) (G23 k)) rfl laidOut noNums (orc_ok (S13 k).o f13_D_ok (orc_ok (S14 k).o f14_D_ok (orc_ok (S15 k).o f15_D_ok (orc_ok (S16 k).o f16_D_ok (orc_ok (S17 k).o f17_D_ok (orc_ok (S18 k).o f18_D_ok (orc_ok (S19 k).o f19_D_ok (orc_ok (S20 k).o f20_D_ok (orc_ok (S21 k).o f21_D_ok (orc_ok (S22 k).o f22_D_ok (orc_ok (S23 k).o f23_D_ok orc0_ok))))))))))) (f := 3) (fn := Try.f3) (code := f3_code) Try.func3 (by kernel_rfl) (drawsOk_of laidOut (orc_ok (S13 k).o f13_D_ok (orc_ok (S14 k).o f14_D_ok (orc_ok (S15 k).o f15_D_ok (orc_ok (S16 k).o f16_D_ok (orc_ok (S17 k).o f17_D_ok (orc_ok (S18 k).o f18_D_ok (orc_ok (S19 k).o f19_D_ok (orc_ok (S20 k).o f20_D_ok (orc_ok (S21 k).o f21_D_ok (orc_ok (S22 k).o f22_D_ok (orc_ok (S23 k).o f23_D_ok orc0_ok))))))))))) mixed (by kernel_rfl)) f3_un f3_un_ok [] (fun _ => rfl)
      (fun x ret => f3_eq k (G13 k) (G14 k) (G15 k) (G16 k) (G17 k) (G18 k) (G19 k) (G20 k) (G21 k) (G22 k) (G23 k) ret x.1 x.2.1 x.2.2.1 x.2.2.2)

/- catchpole/catchpolelaw10.ValueSizes -/
noncomputable def f4_I : PV × PV → List SV × Obs := fun x => ([.val 27 x.1, .val 30 x.2], [])
noncomputable def f4_D : List SV → Obs → Option (PV × PV)
  | [.val 27 p1, .val 30 p2], [] => some (p1, p2)
  | _, _ => none
theorem f4_D_ok (args : List SV) (B : Obs) (x : PV × PV) (h : f4_D args B = some x) : f4_I x = (args, B) := by
  unfold f4_D at h
  split at h
  · injection h with h; subst h; rfl
  · cases h
noncomputable def f4_O : Bool → Out := (fun y => ([.bool y], []))
noncomputable def f4_un : Out → Option (Bool)
  | ([.bool y0], []) => some y0
  | _ => none
theorem f4_un_ok (o : Out) (y : Bool) (h : f4_un o = some y) : o = f4_O y := by
  unfold f4_un at h
  split at h
  · injection h with h; subst h; rfl
  · cases h
noncomputable def f4_msk : Nat → Option (List Nat) := fun key => bif key == 21 then some [3, 5, 6, 7] else none
noncomputable def f4_C (c13 : (Bool → R) → R) (c14 : PV → Int → (Bool → R) → R) (c15 : PV → Int → (Bool → R) → R) (c18 : PV → PV → (Bool → R) → R) (c23 : PV → (Int → R) → R) (c24 : PV → (Int → R) → R) (c25 : PV → ((List Int) → R) → R) : Oracle := orc 13 f13_D f13_O (fun x ret => c13 (fun y0 => ret y0)) <| orc 14 f14_D f14_O (fun x ret => c14 x.1 x.2 (fun y0 => ret y0)) <| orc 15 f15_D f15_O (fun x ret => c15 x.1 x.2 (fun y0 => ret y0)) <| orc 18 f18_D f18_O (fun x ret => c18 x.1 x.2 (fun y0 => ret y0)) <| orc 23 f23_D f23_O (fun x ret => c23 x (fun y0 => ret y0)) <| orc 24 f24_D f24_O (fun x ret => c24 x (fun y0 => ret y0)) <| orc 25 f25_D f25_O (fun x ret => c25 x (fun y0 => ret y0)) <| orc0
noncomputable def f4_E (k : Nat) (c13 : (Bool → R) → R) (c14 : PV → Int → (Bool → R) → R) (c15 : PV → Int → (Bool → R) → R) (c18 : PV → PV → (Bool → R) → R) (c23 : PV → (Int → R) → R) (c24 : PV → (Int → R) → R) (c25 : PV → ((List Int) → R) → R) : Env := { P := Try.prog, nilOwn := fun d => false, fldOwn := fun d i => false, ownPar := ownPars, ownRet := false, mask := f4_msk, fuel := k, C := f4_C c13 c14 c15 c18 c23 c24 c25 }
noncomputable def f4_code : Code := Try.f4.body.getD .skip
noncomputable def f4_cw1 : Code := subC f4_code [1, 1, 1, 1, 0, 1, 0, 0]
noncomputable def f4_hw1_0 (p2 : PV) (n17 : Int) (n18 : Int) (n19 : Int) : St := ⟨[.dead, .dead, .dead, .ptr 3 [], .dead, .int .i64 n17, .int .i64 n18, .int .i64 n19, .dead, .dead, .dead, .dead, .dead, .dead, .dead, .dead, .dead, .dead, .dead, .dead, .dead, .dead, .dead, .dead, .dead, .dead, .dead, .dead, .dead, .dead, .dead, .dead, .dead, .dead, .dead, .dead, .dead, .dead, .dead, .dead, .dead, .dead, .dead, .dead, .dead, .dead, .dead, .dead, .dead, .dead, .dead, .dead, .dead, .dead, .dead, .dead, .dead, .dead, .dead, .dead, .dead, .dead, .dead, .dead, .dead, .dead, .dead, .dead, .dead, .dead, .dead, .dead, .dead, .dead, .dead], [(3, .box 30 (.val 30 p2))]⟩
noncomputable def f4_w1A (k : Nat) (c13 : (Bool → R) → R) (c14 : PV → Int → (Bool → R) → R) (c15 : PV → Int → (Bool → R) → R) (c18 : PV → PV → (Bool → R) → R) (c23 : PV → (Int → R) → R) (c24 : PV → (Int → R) → R) (c25 : PV → ((List Int) → R) → R) (retF : Bool → R) (p2 : PV) (n17 : Int) (n18 : Int) (n19 : Int) : R := loopM (f4_E k c13 c14 c15 c18 c23 c24 c25) f4_cw1 (kont (f4_E k c13 c14 c15 c18 c23 c24 c25) f4_code [1, 1, 1, 1, 0, 1, 0] (endK (f4_E k c13 c14 c15 c18 c23 c24 c25) Try.f4 [] f4_un retF)) k (f4_hw1_0 p2 n17 n18 n19)
noncomputable def f4_w1b0 (c13 : (Bool → R) → R) (c14 : PV → Int → (Bool → R) → R) (c15 : PV → Int → (Bool → R) → R) (c18 : PV → PV → (Bool → R) → R) (c23 : PV → (Int → R) → R) (c24 : PV → (Int → R) → R) (c25 : PV → ((List Int) → R) → R) (ret0 : Bool → R) (next_w1_0 : Int → Int → Int → R) (p2 : PV) (n17 : Int) (n18 : Int) (n19 : Int) : R :=
  bif (decide (n19 < (List.length (PV.els (PV.fld p2 2)) : Int))) then
    bif (true && decide ((0 : Int) ≤ n19) && decide (n19 < (List.length (PV.els (PV.fld p2 2)) : Int))) then
      c24 (List.getD (PV.els (PV.fld p2 2)) (n19).toNat PV.nil) fun n20 =>
      bif (true && decide ((0 : Int) ≤ n19) && decide (n19 < (List.length (PV.els (PV.fld p2 2)) : Int))) then
        c23 (List.getD (PV.els (PV.fld p2 2)) (n19).toNat PV.nil) fun n21 =>
        next_w1_0 (IntKind.wrap .i64 (n17 + n20)) (IntKind.wrap .i64 (n18 + n21)) (IntKind.wrap .i64 (n19 + (1 : Int)))
      else none
    else none
  else c24 p2 fun n22 =>
  bif ((decide (n22 = n17)) == true) then
    bif ((decide ((PV.num (PV.fld p2 0)) = (2 : Int))) == false) then
      c23 p2 fun n23 =>
      bif ((decide (n23 = n18)) == true) then
        bif ((!(decide ((PV.num (PV.fld p2 0)) = (2 : Int)))) == false) then
          c23 p2 fun n24 =>
          bif ((decide (n24 = (1 : Int))) == true) then
            c25 p2 fun s25 =>
            ret0 (!(decide ((s25 : List Int) = [63])))
          else ret0 false
        else c25 p2 fun s26 =>
        ret0 (!(decide ((s26 : List Int) = [63])))
      else ret0 false
    else bif ((!(decide ((PV.num (PV.fld p2 0)) = (2 : Int)))) == false) then
      c23 p2 fun n27 =>
      bif ((decide (n27 = (1 : Int))) == true) then
        c25 p2 fun s28 =>
        ret0 (!(decide ((s28 : List Int) = [63])))
      else ret0 false
    else c25 p2 fun s29 =>
    ret0 (!(decide ((s29 : List Int) = [63])))
  else ret0 false

theorem f4_w1b0_mem (k : Nat) (c13 : (Bool → R) → R) (c14 : PV → Int → (Bool → R) → R) (c15 : PV → Int → (Bool → R) → R) (c18 : PV → PV → (Bool → R) → R) (c23 : PV → (Int → R) → R) (c24 : PV → (Int → R) → R) (c25 : PV → ((List Int) → R) → R) (retF : Bool → R) (NX_w1 : St → R) (p2 : PV) (n17 : Int) (n18 : Int) (n19 : Int) : exec (f4_E k c13 c14 c15 c18 c23 c24 c25) f4_cw1 (purgeK (f4_E k c13 c14 c15 c18 c23 c24 c25) f4_cw1 (loopK NX_w1 (kont (f4_E k c13 c14 c15 c18 c23 c24 c25) f4_code [1, 1, 1, 1, 0, 1, 0] (endK (f4_E k c13 c14 c15 c18 c23 c24 c25) Try.f4 [] f4_un retF)))) (f4_hw1_0 p2 n17 n18 n19) = f4_w1b0 c13 c14 c15 c18 c23 c24 c25 (fun y0 => retF y0) (fun n17 n18 n19 => NX_w1 (f4_hw1_0 p2 n17 n18 n19)) p2 n17 n18 n19 := by kernel_rfl

noncomputable def f4_w1b0N (k : Nat) (c13 : (Bool → R) → R) (c14 : PV → Int → (Bool → R) → R) (c15 : PV → Int → (Bool → R) → R) (c18 : PV → PV → (Bool → R) → R) (c23 : PV → (Int → R) → R) (c24 : PV → (Int → R) → R) (c25 : PV → ((List Int) → R) → R) (ret0 : Bool → R) (next_w1_0 : Int → Int → Int → R) (p2 : PV) (n17 : Int) (n18 : Int) (n19 : Int) : R :=
  f4_w1b0 c13 c14 c15 c18 c23 c24 c25 ret0 next_w1_0 p2 n17 n18 n19
theorem f4_w1b0_eq (k : Nat) (c13 : (Bool → R) → R) (c14 : PV → Int → (Bool → R) → R) (c15 : PV → Int → (Bool → R) → R) (c18 : PV → PV → (Bool → R) → R) (c23 : PV → (Int → R) → R) (c24 : PV → (Int → R) → R) (c25 : PV → ((List Int) → R) → R) (retF : Bool → R) (NX_w1 : St → R) (p2 : PV) (n17 : Int) (n18 : Int) (n19 : Int) : exec (f4_E k c13 c14 c15 c18 c23 c24 c25) f4_cw1 (purgeK (f4_E k c13 c14 c15 c18 c23 c24 c25) f4_cw1 (loopK NX_w1 (kont (f4_E k c13 c14 c15 c18 c23 c24 c25) f4_code [1, 1, 1, 1, 0, 1, 0] (endK (f4_E k c13 c14 c15 c18 c23 c24 c25) Try.f4 [] f4_un retF)))) (f4_hw1_0 p2 n17 n18 n19) = f4_w1b0N k c13 c14 c15 c18 c23 c24 c25 (fun y0 => retF y0) (fun n17 n18 n19 => NX_w1 (f4_hw1_0 p2 n17 n18 n19)) p2 n17 n18 n19 :=
  (f4_w1b0_mem k c13 c14 c15 c18 c23 c24 c25 retF NX_w1 p2 n17 n18 n19)

noncomputable def f4_w1B (k : Nat) (c13 : (Bool → R) → R) (c14 : PV → Int → (Bool → R) → R) (c15 : PV → Int → (Bool → R) → R) (c18 : PV → PV → (Bool → R) → R) (c23 : PV → (Int → R) → R) (c24 : PV → (Int → R) → R) (c25 : PV → ((List Int) → R) → R) (ret0 : Bool → R) (p2 : PV) (nx : Int × Int × Int → R) : Int × Int × Int → R := (fun s => f4_w1b0N k c13 c14 c15 c18 c23 c24 c25 ret0 (fun n17 n18 n19 => nx (n17, n18, n19)) p2 s.1 s.2.1 s.2.2)
noncomputable def f4_w1N (k : Nat) (c13 : (Bool → R) → R) (c14 : PV → Int → (Bool → R) → R) (c15 : PV → Int → (Bool → R) → R) (c18 : PV → PV → (Bool → R) → R) (c23 : PV → (Int → R) → R) (c24 : PV → (Int → R) → R) (c25 : PV → ((List Int) → R) → R) (ret0 : Bool → R) (p2 : PV) (n17 : Int) (n18 : Int) (n19 : Int) : R := loopR (f4_w1B k c13 c14 c15 c18 c23 c24 c25 ret0 p2) k (n17, n18, n19)
theorem f4_w1_eq (k : Nat) (c13 : (Bool → R) → R) (c14 : PV → Int → (Bool → R) → R) (c15 : PV → Int → (Bool → R) → R) (c18 : PV → PV → (Bool → R) → R) (c23 : PV → (Int → R) → R) (c24 : PV → (Int → R) → R) (c25 : PV → ((List Int) → R) → R) (retF : Bool → R) (p2 : PV) (n17 : Int) (n18 : Int) (n19 : Int) : f4_w1A k c13 c14 c15 c18 c23 c24 c25 retF p2 n17 n18 n19 = f4_w1N k c13 c14 c15 c18 c23 c24 c25 (fun y0 => retF y0) p2 n17 n18 n19 :=
  Eq.mp (by kernel_rfl) (loop_sim (E := (f4_E k c13 c14 c15 c18 c23 c24 c25)) (c := f4_cw1) (K := (kont (f4_E k c13 c14 c15 c18 c23 c24 c25) f4_code [1, 1, 1, 1, 0, 1, 0] (endK (f4_E k c13 c14 c15 c18 c23 c24 c25) Try.f4 [] f4_un retF))) (S := Int × Int × Int) (fun s => f4_hw1_0 p2 s.1 s.2.1 s.2.2) (f4_w1B k c13 c14 c15 c18 c23 c24 c25 (fun y0 => retF y0) p2) (fun NX s => by
    exact Eq.mp (by kernel_rfl) (f4_w1b0_eq k c13 c14 c15 c18 c23 c24 c25 retF NX p2 s.1 s.2.1 s.2.2)) k (n17, n18, n19))

noncomputable def f4_e (c13 : (Bool → R) → R) (c14 : PV → Int → (Bool → R) → R) (c15 : PV → Int → (Bool → R) → R) (c18 : PV → PV → (Bool → R) → R) (c23 : PV → (Int → R) → R) (c24 : PV → (Int → R) → R) (c25 : PV → ((List Int) → R) → R) (ret0 : Bool → R) (w1 : Int → Int → Int → R) (p1 : PV) (p2 : PV) : R :=
  c13 fun b3 =>
  bif (!b3) then
    ret0 false
  else c14 p1 60 fun b4 =>
  bif (b4 == false) then
    c15 p2 30 fun b5 =>
    bif (b5 == false) then
      c18 p1 p2 fun b6 =>
      bif (!b6) then
        ret0 true
      else w1 1 0 0
    else ret0 true
  else ret0 true

theorem f4_e_mem (k : Nat) (c13 : (Bool → R) → R) (c14 : PV → Int → (Bool → R) → R) (c15 : PV → Int → (Bool → R) → R) (c18 : PV → PV → (Bool → R) → R) (c23 : PV → (Int → R) → R) (c24 : PV → (Int → R) → R) (c25 : PV → ((List Int) → R) → R) (retF : Bool → R) (p1 : PV) (p2 : PV) : exec (f4_E k c13 c14 c15 c18 c23 c24 c25) f4_code (endK (f4_E k c13 c14 c15 c18 c23 c24 c25) Try.f4 [] f4_un retF) ⟨[.val 27 p1, .val 30 p2, .undef, .undef, .undef, .undef, .undef, .undef, .undef, .undef, .undef, .undef, .undef, .undef, .undef, .undef, .undef, .undef, .undef, .undef, .undef, .undef, .undef, .undef, .undef, .undef, .undef, .undef, .undef, .undef, .undef, .undef, .undef, .undef, .undef, .undef, .undef, .undef, .undef, .undef, .undef, .undef, .undef, .undef, .undef, .undef, .undef, .undef, .undef, .undef, .undef, .undef, .undef, .undef, .undef, .undef, .undef, .undef, .undef, .undef, .undef, .undef, .undef, .undef, .undef, .undef, .undef, .undef, .undef, .undef, .undef, .undef, .undef, .undef, .undef], []⟩ = f4_e c13 c14 c15 c18 c23 c24 c25 (fun y0 => retF y0) (fun n17 n18 n19 => f4_w1A k c13 c14 c15 c18 c23 c24 c25 retF p2 n17 n18 n19) p1 p2 := by kernel_rfl

noncomputable def f4_N (k : Nat) (c13 : (Bool → R) → R) (c14 : PV → Int → (Bool → R) → R) (c15 : PV → Int → (Bool → R) → R) (c18 : PV → PV → (Bool → R) → R) (c23 : PV → (Int → R) → R) (c24 : PV → (Int → R) → R) (c25 : PV → ((List Int) → R) → R) (ret0 : Bool → R) (p1 : PV) (p2 : PV) : R :=
  f4_e c13 c14 c15 c18 c23 c24 c25 ret0 (fun n17 n18 n19 => f4_w1N k c13 c14 c15 c18 c23 c24 c25 ret0 p2 n17 n18 n19) p1 p2
theorem f4_eq (k : Nat) (c13 : (Bool → R) → R) (c14 : PV → Int → (Bool → R) → R) (c15 : PV → Int → (Bool → R) → R) (c18 : PV → PV → (Bool → R) → R) (c23 : PV → (Int → R) → R) (c24 : PV → (Int → R) → R) (c25 : PV → ((List Int) → R) → R) (retF : Bool → R) (p1 : PV) (p2 : PV) : exec (f4_E k c13 c14 c15 c18 c23 c24 c25) f4_code (endK (f4_E k c13 c14 c15 c18 c23 c24 c25) Try.f4 [] f4_un retF) ⟨[.val 27 p1, .val 30 p2, .undef, .undef, .undef, .undef, .undef, .undef, .undef, .undef, .undef, .undef, .undef, .undef, .undef, .undef, .undef, .undef, .undef, .undef, .undef, .undef, .undef, .undef, .undef, .undef, .undef, .undef, .undef, .undef, .undef, .undef, .undef, .undef, .undef, .undef, .undef, .undef, .undef, .undef, .undef, .undef, .undef, .undef, .undef, .undef, .undef, .undef, .undef, .undef, .undef, .undef, .undef, .undef, .undef, .undef, .undef, .undef, .undef, .undef, .undef, .undef, .undef, .undef, .undef, .undef, .undef, .undef, .undef, .undef, .undef, .undef, .undef, .undef, .undef], []⟩ = f4_N k c13 c14 c15 c18 c23 c24 c25 (fun y0 => retF y0) p1 p2 :=
  (f4_e_mem k c13 c14 c15 c18 c23 c24 c25 retF p1 p2).trans (by rw [show (fun n17 n18 n19 => f4_w1A k c13 c14 c15 c18 c23 c24 c25 retF p2 n17 n18 n19) = (fun n17 n18 n19 => f4_w1N k c13 c14 c15 c18 c23 c24 c25 (fun y0 => retF y0) p2 n17 n18 n19) from funext fun n17 => funext fun n18 => funext fun n19 => f4_w1_eq k c13 c14 c15 c18 c23 c24 c25 retF p2 n17 n18 n19]; rfl)

noncomputable def G4 : Nat → PV → PV → (Bool → R) → R
  | 0, _, _, _ => none
  | k + 1, p1, p2, ret0 => f4_N k (G13 k) (G14 k) (G15 k) (G18 k) (G23 k) (G24 k) (G25 k) ret0 p1 p2
theorem S4 : ∀ k, Snd Try.prog 4 f4_I f4_O (fun x ret => G4 k x.1 x.2 (fun y0 => ret y0))
  | 0 => snd_none
  | k + 1 => snd_step (E := f4_E k (G13 k) (G14 k) (G15 k) (G18 k) (G23 k) (G24 k) (G25 k)) rfl laidOut noNums (orc_ok (S13 k).o f13_D_ok (orc_ok (S14 k).o f14_D_ok (orc_ok (S15 k).o f15_D_ok (orc_ok (S18 k).o f18_D_ok (orc_ok (S23 k).o f23_D_ok (orc_ok (S24 k).o f24_D_ok (orc_ok (S25 k).o f25_D_ok orc0_ok))))))) (f := 4) (fn := Try.f4) (code := f4_code) Try.func4 (by kernel_rfl) (drawsOk_of laidOut (orc_ok (S13 k).o f13_D_ok (orc_ok (S14 k).o f14_D_ok (orc_ok (S15 k).o f15_D_ok (orc_ok (S18 k).o f18_D_ok (orc_ok (S23 k).o f23_D_ok (orc_ok (S24 k).o f24_D_ok (orc_ok (S25 k).o f25_D_ok orc0_ok))))))) mixed (by kernel_rfl)) f4_un f4_un_ok [] (fun _ => rfl)
      (fun x ret => f4_eq k (G13 k) (G14 k) (G15 k) (G18 k) (G23 k) (G24 k) (G25 k) ret x.1 x.2)

/- slices.EqualFunc[[]catchpole/value.Value,[]catchpole/value.Value,catchpole/value.Value,catchpole/value.Value] -/
noncomputable def f62_I : PV × PV → List SV × Obs := fun x => ([.val 28 x.1, .val 28 x.2, .fn 26 []], [])
noncomputable def f62_D : List SV → Obs → Option (PV × PV)
  | [.val 28 p1, .val 28 p2, .fn 26 []], [] => some (p1, p2)
  | _, _ => none
theorem f62_D_ok (args : List SV) (B : Obs) (x : PV × PV) (h : f62_D args B = some x) : f62_I x = (args, B) := by
  unfold f62_D at h
  split at h
  · injection h with h; subst h; rfl
  · cases h
noncomputable def f62_O : Bool → Out := (fun y => ([.bool y], []))
noncomputable def f62_un : Out → Option (Bool)
  | ([.bool y0], []) => some y0
  | _ => none
theorem f62_un_ok (o : Out) (y : Bool) (h : f62_un o = some y) : o = f62_O y := by
  unfold f62_un at h
  split at h
  · injection h with h; subst h; rfl
  · cases h
/- catchpole/value.Same -/
noncomputable def f26_I : PV × PV → List SV × Obs := fun x => ([.val 30 x.1, .val 30 x.2], [])
noncomputable def f26_D : List SV → Obs → Option (PV × PV)
  | [.val 30 p1, .val 30 p2], [] => some (p1, p2)
  | _, _ => none
theorem f26_D_ok (args : List SV) (B : Obs) (x : PV × PV) (h : f26_D args B = some x) : f26_I x = (args, B) := by
  unfold f26_D at h
  split at h
  · injection h with h; subst h; rfl
  · cases h
noncomputable def f26_O : Bool → Out := (fun y => ([.bool y], []))
noncomputable def f26_un : Out → Option (Bool)
  | ([.bool y0], []) => some y0
  | _ => none
theorem f26_un_ok (o : Out) (y : Bool) (h : f26_un o = some y) : o = f26_O y := by
  unfold f26_un at h
  split at h
  · injection h with h; subst h; rfl
  · cases h
noncomputable def f62_msk : Nat → Option (List Nat) := fun key => bif key == 12 then some [1, 2, 15, 16, 17] else none
noncomputable def f62_C (c26 : PV → PV → (Bool → R) → R) : Oracle := orc 26 f26_D f26_O (fun x ret => c26 x.1 x.2 (fun y0 => ret y0)) <| orc0
noncomputable def f62_E (k : Nat) (c26 : PV → PV → (Bool → R) → R) : Env := { P := Try.prog, nilOwn := fun d => false, fldOwn := fun d i => false, ownPar := ownPars, ownRet := false, mask := f62_msk, fuel := k, C := f62_C c26 }
noncomputable def f62_code : Code := Try.f62.body.getD .skip
noncomputable def f62_cw1 : Code := subC f62_code [1, 1, 0, 1, 0, 0]
noncomputable def f62_hw1_0 (p1 : PV) (p2 : PV) (n4 : Int) : St := ⟨[.dead, .val 28 p2, .fn 26 [], .dead, .dead, .dead, .dead, .dead, .dead, .dead, .dead, .dead, .dead, .dead, .dead, .val 28 p1, .int .i64 (List.length (PV.els p1) : Int), .int .i64 n4, .dead, .dead, .dead, .dead, .dead, .dead, .dead, .dead, .dead, .dead, .dead, .dead, .dead, .dead], []⟩
noncomputable def f62_w1A (k : Nat) (c26 : PV → PV → (Bool → R) → R) (retF : Bool → R) (p1 : PV) (p2 : PV) (n4 : Int) : R := loopM (f62_E k c26) f62_cw1 (kont (f62_E k c26) f62_code [1, 1, 0, 1, 0] (endK (f62_E k c26) Try.f62 [] f62_un retF)) k (f62_hw1_0 p1 p2 n4)
noncomputable def f62_w1b0 (c26 : PV → PV → (Bool → R) → R) (ret0 : Bool → R) (next_w1_0 : Int → R) (p1 : PV) (p2 : PV) (n4 : Int) : R :=
  bif (decide (n4 < (List.length (PV.els p1) : Int))) then
    bif (true && decide ((0 : Int) ≤ n4) && decide (n4 < (List.length (PV.els p1) : Int))) then
      bif (true && decide ((0 : Int) ≤ n4) && decide (n4 < (List.length (PV.els p2) : Int))) then
        c26 (List.getD (PV.els p1) (n4).toNat PV.nil) (List.getD (PV.els p2) (n4).toNat PV.nil) fun b5 =>
        bif (!b5) then
          ret0 false
        else next_w1_0 (IntKind.wrap .i64 (n4 + (1 : Int)))
      else none
    else none
  else ret0 true

theorem f62_w1b0_mem (k : Nat) (c26 : PV → PV → (Bool → R) → R) (retF : Bool → R) (NX_w1 : St → R) (p1 : PV) (p2 : PV) (n4 : Int) : exec (f62_E k c26) f62_cw1 (purgeK (f62_E k c26) f62_cw1 (loopK NX_w1 (kont (f62_E k c26) f62_code [1, 1, 0, 1, 0] (endK (f62_E k c26) Try.f62 [] f62_un retF)))) (f62_hw1_0 p1 p2 n4) = f62_w1b0 c26 (fun y0 => retF y0) (fun n4 => NX_w1 (f62_hw1_0 p1 p2 n4)) p1 p2 n4 := by kernel_rfl

noncomputable def f62_w1b0N (k : Nat) (c26 : PV → PV → (Bool → R) → R) (ret0 : Bool → R) (next_w1_0 : Int → R) (p1 : PV) (p2 : PV) (n4 : Int) : R :=
  f62_w1b0 c26 ret0 next_w1_0 p1 p2 n4
theorem f62_w1b0_eq (k : Nat) (c26 : PV → PV → (Bool → R) → R) (retF : Bool → R) (NX_w1 : St → R) (p1 : PV) (p2 : PV) (n4 : Int) : exec (f62_E k c26) f62_cw1 (purgeK (f62_E k c26) f62_cw1 (loopK NX_w1 (kont (f62_E k c26) f62_code [1, 1, 0, 1, 0] (endK (f62_E k c26) Try.f62 [] f62_un retF)))) (f62_hw1_0 p1 p2 n4) = f62_w1b0N k c26 (fun y0 => retF y0) (fun n4 => NX_w1 (f62_hw1_0 p1 p2 n4)) p1 p2 n4 :=
  (f62_w1b0_mem k c26 retF NX_w1 p1 p2 n4)

noncomputable def f62_w1B (k : Nat) (c26 : PV → PV → (Bool → R) → R) (ret0 : Bool → R) (p1 : PV) (p2 : PV) (nx : Int → R) : Int → R := (fun s => f62_w1b0N k c26 ret0 (fun n4 => nx n4) p1 p2 s)
noncomputable def f62_w1N (k : Nat) (c26 : PV → PV → (Bool → R) → R) (ret0 : Bool → R) (p1 : PV) (p2 : PV) (n4 : Int) : R := loopR (f62_w1B k c26 ret0 p1 p2) k n4
theorem f62_w1_eq (k : Nat) (c26 : PV → PV → (Bool → R) → R) (retF : Bool → R) (p1 : PV) (p2 : PV) (n4 : Int) : f62_w1A k c26 retF p1 p2 n4 = f62_w1N k c26 (fun y0 => retF y0) p1 p2 n4 :=
  Eq.mp (by kernel_rfl) (loop_sim (E := (f62_E k c26)) (c := f62_cw1) (K := (kont (f62_E k c26) f62_code [1, 1, 0, 1, 0] (endK (f62_E k c26) Try.f62 [] f62_un retF))) (S := Int) (fun s => f62_hw1_0 p1 p2 s) (f62_w1B k c26 (fun y0 => retF y0) p1 p2) (fun NX s => by
    exact Eq.mp (by kernel_rfl) (f62_w1b0_eq k c26 retF NX p1 p2 s)) k n4)

noncomputable def f62_e (c26 : PV → PV → (Bool → R) → R) (ret0 : Bool → R) (w1 : Int → R) (p1 : PV) (p2 : PV) : R :=
  bif (!(decide ((List.length (PV.els p1) : Int) = (List.length (PV.els p2) : Int)))) then
    ret0 false
  else w1 0

theorem f62_e_mem (k : Nat) (c26 : PV → PV → (Bool → R) → R) (retF : Bool → R) (p1 : PV) (p2 : PV) : exec (f62_E k c26) f62_code (endK (f62_E k c26) Try.f62 [] f62_un retF) ⟨[.val 28 p1, .val 28 p2, .fn 26 [], .undef, .undef, .undef, .undef, .undef, .undef, .undef, .undef, .undef, .undef, .undef, .undef, .undef, .undef, .undef, .undef, .undef, .undef, .undef, .undef, .undef, .undef, .undef, .undef, .undef, .undef, .undef, .undef, .undef], []⟩ = f62_e c26 (fun y0 => retF y0) (fun n4 => f62_w1A k c26 retF p1 p2 n4) p1 p2 := by kernel_rfl

noncomputable def f62_N (k : Nat) (c26 : PV → PV → (Bool → R) → R) (ret0 : Bool → R) (p1 : PV) (p2 : PV) : R :=
  f62_e c26 ret0 (fun n4 => f62_w1N k c26 ret0 p1 p2 n4) p1 p2
theorem f62_eq (k : Nat) (c26 : PV → PV → (Bool → R) → R) (retF : Bool → R) (p1 : PV) (p2 : PV) : exec (f62_E k c26) f62_code (endK (f62_E k c26) Try.f62 [] f62_un retF) ⟨[.val 28 p1, .val 28 p2, .fn 26 [], .undef, .undef, .undef, .undef, .undef, .undef, .undef, .undef, .undef, .undef, .undef, .undef, .undef, .undef, .undef, .undef, .undef, .undef, .undef, .undef, .undef, .undef, .undef, .undef, .undef, .undef, .undef, .undef, .undef], []⟩ = f62_N k c26 (fun y0 => retF y0) p1 p2 :=
  (f62_e_mem k c26 retF p1 p2).trans (by rw [show (fun n4 => f62_w1A k c26 retF p1 p2 n4) = (fun n4 => f62_w1N k c26 (fun y0 => retF y0) p1 p2 n4) from funext fun n4 => f62_w1_eq k c26 retF p1 p2 n4]; rfl)

noncomputable def f26_msk : Nat → Option (List Nat) := fun key =>  none
noncomputable def f26_C (c62 : PV → PV → (Bool → R) → R) : Oracle := orc 62 f62_D f62_O (fun x ret => c62 x.1 x.2 (fun y0 => ret y0)) <| orc0
noncomputable def f26_E (k : Nat) (c62 : PV → PV → (Bool → R) → R) : Env := { P := Try.prog, nilOwn := fun d => false, fldOwn := fun d i => false, ownPar := ownPars, ownRet := false, mask := f26_msk, fuel := k, C := f26_C c62 }
noncomputable def f26_code : Code := Try.f26.body.getD .skip
noncomputable def f26_e (c62 : PV → PV → (Bool → R) → R) (ret0 : Bool → R) (p1 : PV) (p2 : PV) : R :=
  bif ((decide ((PV.num (PV.fld p1 0)) = (PV.num (PV.fld p2 0)))) == true) then
    bif ((decide ((PV.num (PV.fld p1 1)) = (PV.num (PV.fld p2 1)))) == true) then
      c62 (PV.fld p1 2) (PV.fld p2 2) fun b3 =>
      ret0 b3
    else ret0 false
  else ret0 false

theorem f26_e_mem (k : Nat) (c62 : PV → PV → (Bool → R) → R) (retF : Bool → R) (p1 : PV) (p2 : PV) : exec (f26_E k c62) f26_code (endK (f26_E k c62) Try.f26 [] f26_un retF) ⟨[.val 30 p1, .val 30 p2, .undef, .undef, .undef, .undef, .undef, .undef, .undef, .undef, .undef, .undef, .undef, .undef, .undef, .undef, .undef, .undef, .undef, .undef, .undef, .undef, .undef, .undef], []⟩ = f26_e c62 (fun y0 => retF y0) p1 p2 := by kernel_rfl

noncomputable def f26_N (k : Nat) (c62 : PV → PV → (Bool → R) → R) (ret0 : Bool → R) (p1 : PV) (p2 : PV) : R :=
  f26_e c62 ret0 p1 p2
theorem f26_eq (k : Nat) (c62 : PV → PV → (Bool → R) → R) (retF : Bool → R) (p1 : PV) (p2 : PV) : exec (f26_E k c62) f26_code (endK (f26_E k c62) Try.f26 [] f26_un retF) ⟨[.val 30 p1, .val 30 p2, .undef, .undef, .undef, .undef, .undef, .undef, .undef, .undef, .undef, .undef, .undef, .undef, .undef, .undef, .undef, .undef, .undef, .undef, .undef, .undef, .undef, .undef], []⟩ = f26_N k c62 (fun y0 => retF y0) p1 p2 :=
  (f26_e_mem k c62 retF p1 p2)

mutual
noncomputable def G62 : Nat → PV → PV → (Bool → R) → R
  | 0, _, _, _ => none
  | k + 1, p1, p2, ret0 => f62_N k (G26 k) ret0 p1 p2
noncomputable def G26 : Nat → PV → PV → (Bool → R) → R
  | 0, _, _, _ => none
  | k + 1, p1, p2, ret0 => f26_N k (G62 k) ret0 p1 p2
end
mutual
theorem S62 : ∀ k, Snd Try.prog 62 f62_I f62_O (fun x ret => G62 k x.1 x.2 (fun y0 => ret y0))
  | 0 => snd_none
  | k + 1 => snd_step (E := f62_E k (G26 k)) rfl laidOut noNums (orc_ok (S26 k).o f26_D_ok orc0_ok) (f := 62) (fn := Try.f62) (code := f62_code) Try.func62 (by kernel_rfl) (drawsOk_of laidOut (orc_ok (S26 k).o f26_D_ok orc0_ok) mixed (by kernel_rfl)) f62_un f62_un_ok [] (fun _ => rfl)
      (fun x ret => f62_eq k (G26 k) ret x.1 x.2)
theorem S26 : ∀ k, Snd Try.prog 26 f26_I f26_O (fun x ret => G26 k x.1 x.2 (fun y0 => ret y0))
  | 0 => snd_none
  | k + 1 => snd_step (E := f26_E k (G62 k)) rfl laidOut noNums (orc_ok (S62 k).o f62_D_ok orc0_ok) (f := 26) (fn := Try.f26) (code := f26_code) Try.func26 (by kernel_rfl) (drawsOk_of laidOut (orc_ok (S62 k).o f62_D_ok orc0_ok) mixed (by kernel_rfl)) f26_un f26_un_ok [] (fun _ => rfl)
      (fun x ret => f26_eq k (G62 k) ret x.1 x.2)
end

/- catchpole/catchpolelaw10.ValueTexts -/
noncomputable def f5_I : PV × PV × PV → List SV × Obs := fun x => ([.val 27 x.1, .val 30 x.2.1, .val 30 x.2.2], [])
noncomputable def f5_D : List SV → Obs → Option (PV × PV × PV)
  | [.val 27 p1, .val 30 p2, .val 30 p3], [] => some (p1, p2, p3)
  | _, _ => none
theorem f5_D_ok (args : List SV) (B : Obs) (x : PV × PV × PV) (h : f5_D args B = some x) : f5_I x = (args, B) := by
  unfold f5_D at h
  split at h
  · injection h with h; subst h; rfl
  · cases h
noncomputable def f5_O : Bool → Out := (fun y => ([.bool y], []))
noncomputable def f5_un : Out → Option (Bool)
  | ([.bool y0], []) => some y0
  | _ => none
theorem f5_un_ok (o : Out) (y : Bool) (h : f5_un o = some y) : o = f5_O y := by
  unfold f5_un at h
  split at h
  · injection h with h; subst h; rfl
  · cases h
noncomputable def f5_msk : Nat → Option (List Nat) := fun key =>  none
noncomputable def f5_C (c13 : (Bool → R) → R) (c14 : PV → Int → (Bool → R) → R) (c15 : PV → Int → (Bool → R) → R) (c18 : PV → PV → (Bool → R) → R) (c23 : PV → (Int → R) → R) (c25 : PV → ((List Int) → R) → R) (c26 : PV → PV → (Bool → R) → R) (c27 : PV → (PV → R) → R) : Oracle := orc 13 f13_D f13_O (fun x ret => c13 (fun y0 => ret y0)) <| orc 14 f14_D f14_O (fun x ret => c14 x.1 x.2 (fun y0 => ret y0)) <| orc 15 f15_D f15_O (fun x ret => c15 x.1 x.2 (fun y0 => ret y0)) <| orc 18 f18_D f18_O (fun x ret => c18 x.1 x.2 (fun y0 => ret y0)) <| orc 23 f23_D f23_O (fun x ret => c23 x (fun y0 => ret y0)) <| orc 25 f25_D f25_O (fun x ret => c25 x (fun y0 => ret y0)) <| orc 26 f26_D f26_O (fun x ret => c26 x.1 x.2 (fun y0 => ret y0)) <| orc 27 f27_D f27_O (fun x ret => c27 x (fun y0 => ret y0)) <| orc0
noncomputable def f5_E (k : Nat) (c13 : (Bool → R) → R) (c14 : PV → Int → (Bool → R) → R) (c15 : PV → Int → (Bool → R) → R) (c18 : PV → PV → (Bool → R) → R) (c23 : PV → (Int → R) → R) (c25 : PV → ((List Int) → R) → R) (c26 : PV → PV → (Bool → R) → R) (c27 : PV → (PV → R) → R) : Env := { P := Try.prog, nilOwn := fun d => false, fldOwn := fun d i => false, ownPar := ownPars, ownRet := false, mask := f5_msk, fuel := k, C := f5_C c13 c14 c15 c18 c23 c25 c26 c27 }
noncomputable def f5_code : Code := Try.f5.body.getD .skip
noncomputable def f5_e (c13 : (Bool → R) → R) (c14 : PV → Int → (Bool → R) → R) (c15 : PV → Int → (Bool → R) → R) (c18 : PV → PV → (Bool → R) → R) (c23 : PV → (Int → R) → R) (c25 : PV → ((List Int) → R) → R) (c26 : PV → PV → (Bool → R) → R) (c27 : PV → (PV → R) → R) (ret0 : Bool → R) (p1 : PV) (p2 : PV) (p3 : PV) : R :=
  c13 fun b4 =>
  bif (!b4) then
    ret0 false
  else c14 p1 100 fun b5 =>
  bif (b5 == false) then
    c15 p2 40 fun b6 =>
    bif (b6 == false) then
      c15 p3 40 fun b7 =>
      bif (b7 == false) then
        c18 p1 p2 fun b8 =>
        bif ((!b8) == false) then
          c18 p1 p3 fun b9 =>
          bif (!b9) then
            ret0 true
          else c25 p2 fun s10 =>
          c25 p3 fun s11 =>
          c26 p2 p3 fun b12 =>
          bif (((decide ((s10 : List Int) = s11)) == b12) == true) then
            c23 p2 fun n13 =>
            c27 p2 fun p14 =>
            ret0 (decide (n13 = (List.length (PV.els p14) : Int)))
          else ret0 false
        else ret0 true
      else ret0 true
    else ret0 true
  else ret0 true

theorem f5_e_mem (k : Nat) (c13 : (Bool → R) → R) (c14 : PV → Int → (Bool → R) → R) (c15 : PV → Int → (Bool → R) → R) (c18 : PV → PV → (Bool → R) → R) (c23 : PV → (Int → R) → R) (c25 : PV → ((List Int) → R) → R) (c26 : PV → PV → (Bool → R) → R) (c27 : PV → (PV → R) → R) (retF : Bool → R) (p1 : PV) (p2 : PV) (p3 : PV) : exec (f5_E k c13 c14 c15 c18 c23 c25 c26 c27) f5_code (endK (f5_E k c13 c14 c15 c18 c23 c25 c26 c27) Try.f5 [] f5_un retF) ⟨[.val 27 p1, .val 30 p2, .val 30 p3, .undef, .undef, .undef, .undef, .undef, .undef, .undef, .undef, .undef, .undef, .undef, .undef, .undef, .undef, .undef, .undef, .undef, .undef, .undef, .undef, .undef, .undef, .undef, .undef, .undef, .undef, .undef, .undef, .undef, .undef, .undef, .undef, .undef, .undef, .undef, .undef, .undef, .undef, .undef, .undef, .undef, .undef, .undef, .undef, .undef], []⟩ = f5_e c13 c14 c15 c18 c23 c25 c26 c27 (fun y0 => retF y0) p1 p2 p3 := by kernel_rfl

noncomputable def f5_N (k : Nat) (c13 : (Bool → R) → R) (c14 : PV → Int → (Bool → R) → R) (c15 : PV → Int → (Bool → R) → R) (c18 : PV → PV → (Bool → R) → R) (c23 : PV → (Int → R) → R) (c25 : PV → ((List Int) → R) → R) (c26 : PV → PV → (Bool → R) → R) (c27 : PV → (PV → R) → R) (ret0 : Bool → R) (p1 : PV) (p2 : PV) (p3 : PV) : R :=
  f5_e c13 c14 c15 c18 c23 c25 c26 c27 ret0 p1 p2 p3
theorem f5_eq (k : Nat) (c13 : (Bool → R) → R) (c14 : PV → Int → (Bool → R) → R) (c15 : PV → Int → (Bool → R) → R) (c18 : PV → PV → (Bool → R) → R) (c23 : PV → (Int → R) → R) (c25 : PV → ((List Int) → R) → R) (c26 : PV → PV → (Bool → R) → R) (c27 : PV → (PV → R) → R) (retF : Bool → R) (p1 : PV) (p2 : PV) (p3 : PV) : exec (f5_E k c13 c14 c15 c18 c23 c25 c26 c27) f5_code (endK (f5_E k c13 c14 c15 c18 c23 c25 c26 c27) Try.f5 [] f5_un retF) ⟨[.val 27 p1, .val 30 p2, .val 30 p3, .undef, .undef, .undef, .undef, .undef, .undef, .undef, .undef, .undef, .undef, .undef, .undef, .undef, .undef, .undef, .undef, .undef, .undef, .undef, .undef, .undef, .undef, .undef, .undef, .undef, .undef, .undef, .undef, .undef, .undef, .undef, .undef, .undef, .undef, .undef, .undef, .undef, .undef, .undef, .undef, .undef, .undef, .undef, .undef, .undef], []⟩ = f5_N k c13 c14 c15 c18 c23 c25 c26 c27 (fun y0 => retF y0) p1 p2 p3 :=
  (f5_e_mem k c13 c14 c15 c18 c23 c25 c26 c27 retF p1 p2 p3)

noncomputable def G5 : Nat → PV → PV → PV → (Bool → R) → R
  | 0, _, _, _, _ => none
  | k + 1, p1, p2, p3, ret0 => f5_N k (G13 k) (G14 k) (G15 k) (G18 k) (G23 k) (G25 k) (G26 k) (G27 k) ret0 p1 p2 p3
theorem S5 : ∀ k, Snd Try.prog 5 f5_I f5_O (fun x ret => G5 k x.1 x.2.1 x.2.2 (fun y0 => ret y0))
  | 0 => snd_none
  | k + 1 => snd_step (E := f5_E k (G13 k) (G14 k) (G15 k) (G18 k) (G23 k) (G25 k) (G26 k) (G27 k)) rfl laidOut noNums (orc_ok (S13 k).o f13_D_ok (orc_ok (S14 k).o f14_D_ok (orc_ok (S15 k).o f15_D_ok (orc_ok (S18 k).o f18_D_ok (orc_ok (S23 k).o f23_D_ok (orc_ok (S25 k).o f25_D_ok (orc_ok (S26 k).o f26_D_ok (orc_ok (S27 k).o f27_D_ok orc0_ok)))))))) (f := 5) (fn := Try.f5) (code := f5_code) Try.func5 (by kernel_rfl) (drawsOk_of laidOut (orc_ok (S13 k).o f13_D_ok (orc_ok (S14 k).o f14_D_ok (orc_ok (S15 k).o f15_D_ok (orc_ok (S18 k).o f18_D_ok (orc_ok (S23 k).o f23_D_ok (orc_ok (S25 k).o f25_D_ok (orc_ok (S26 k).o f26_D_ok (orc_ok (S27 k).o f27_D_ok orc0_ok)))))))) mixed (by kernel_rfl)) f5_un f5_un_ok [] (fun _ => rfl)
      (fun x ret => f5_eq k (G13 k) (G14 k) (G15 k) (G18 k) (G23 k) (G25 k) (G26 k) (G27 k) ret x.1 x.2.1 x.2.2)

/- catchpole/catchpoleref1.From -/
noncomputable def f83_I : PV → List SV × Obs := fun x => ([.val 23 x], [])
noncomputable def f83_D : List SV → Obs → Option (PV)
  | [.val 23 p1], [] => some p1
  | _, _ => none
theorem f83_D_ok (args : List SV) (B : Obs) (x : PV) (h : f83_D args B = some x) : f83_I x = (args, B) := by
  unfold f83_D at h
  split at h
  · injection h with h; subst h; rfl
  · cases h
noncomputable def f83_O : PV → Out := (fun y => ([.val 50 y], []))
noncomputable def f83_un : Out → Option (PV)
  | ([.val 50 y0], []) => some y0
  | _ => none
theorem f83_un_ok (o : Out) (y : PV) (h : f83_un o = some y) : o = f83_O y := by
  unfold f83_un at h
  split at h
  · injection h with h; subst h; rfl
  · cases h
noncomputable def f83_msk : Nat → Option (List Nat) := fun key => bif key == 9 then some [1, 2, 3, 4] else none
noncomputable def f83_C : Oracle := orc0
noncomputable def f83_E (k : Nat) : Env := { P := Try.prog, nilOwn := fun d => false, fldOwn := fun d i => false, ownPar := ownPars, ownRet := false, mask := f83_msk, fuel := k, C := f83_C }
noncomputable def f83_code : Code := Try.f83.body.getD .skip
noncomputable def f83_cw1 : Code := subC f83_code [1, 1, 0, 1, 0, 0]
noncomputable def f83_hw1_0 (p1 : PV) (n3 : Int) (p4 : PV) : St := ⟨[.dead, .ptr 1 [], .ptr 2 [], .ptr 3 [], .int .i64 n3, .dead, .dead, .dead, .dead, .dead, .dead, .dead, .dead, .dead, .dead, .dead, .dead, .dead, .dead, .dead, .dead, .dead], [(1, .box 23 (.val 23 p1)), (2, .box 50 (.val 50 (PV.agg (List.replicate 256 (PV.bool false))))), (3, .box 50 (.val 50 p4))]⟩
noncomputable def f83_w1A (k : Nat) (retF : PV → R) (p1 : PV) (n3 : Int) (p4 : PV) : R := loopM (f83_E k) f83_cw1 (kont (f83_E k) f83_code [1, 1, 0, 1, 0] (endK (f83_E k) Try.f83 [] f83_un retF)) k (f83_hw1_0 p1 n3 p4)
noncomputable def f83_w1b0 (ret0 : PV → R) (next_w1_0 : Int → PV → R) (p1 : PV) (n3 : Int) (p4 : PV) : R :=
  bif (decide (n3 < (256 : Int))) then
    bif (true && decide ((0 : Int) ≤ (IntKind.wrap .i64 (Int.tdiv n3 64))) && decide ((IntKind.wrap .i64 (Int.tdiv n3 64)) < 4)) then
      bif (decide ((0 : Int) ≤ (IntKind.wrap .u64 (Int.tmod n3 64)))) then
        let n5 : Int := (Int.fdiv (PV.num (PV.fld p1 ((IntKind.wrap .i64 (Int.tdiv n3 64))).toNat)) (2 ^ (min ((IntKind.wrap .u64 (Int.tmod n3 64))).toNat 64)))
        bif (true && decide ((0 : Int) ≤ n3) && decide (n3 < 256)) then
          next_w1_0 (IntKind.wrap .i64 (n3 + (1 : Int))) (PV.agg (List.set (PV.flds p4) (n3).toNat (PV.bool (decide ((intBit .and .u64 n5 1) = (1 : Int))))))
        else none
      else none
    else none
  else ret0 p4

theorem f83_w1b0_mem (k : Nat) (retF : PV → R) (NX_w1 : St → R) (p1 : PV) (n3 : Int) (p4 : PV) : exec (f83_E k) f83_cw1 (purgeK (f83_E k) f83_cw1 (loopK NX_w1 (kont (f83_E k) f83_code [1, 1, 0, 1, 0] (endK (f83_E k) Try.f83 [] f83_un retF)))) (f83_hw1_0 p1 n3 p4) = f83_w1b0 (fun y0 => retF y0) (fun n3 p4 => NX_w1 (f83_hw1_0 p1 n3 p4)) p1 n3 p4 := by kernel_rfl

noncomputable def f83_w1b0N (k : Nat) (ret0 : PV → R) (next_w1_0 : Int → PV → R) (p1 : PV) (n3 : Int) (p4 : PV) : R :=
  f83_w1b0 ret0 next_w1_0 p1 n3 p4
theorem f83_w1b0_eq (k : Nat) (retF : PV → R) (NX_w1 : St → R) (p1 : PV) (n3 : Int) (p4 : PV) : exec (f83_E k) f83_cw1 (purgeK (f83_E k) f83_cw1 (loopK NX_w1 (kont (f83_E k) f83_code [1, 1, 0, 1, 0] (endK (f83_E k) Try.f83 [] f83_un retF)))) (f83_hw1_0 p1 n3 p4) = f83_w1b0N k (fun y0 => retF y0) (fun n3 p4 => NX_w1 (f83_hw1_0 p1 n3 p4)) p1 n3 p4 :=
  (f83_w1b0_mem k retF NX_w1 p1 n3 p4)

noncomputable def f83_w1B (k : Nat) (ret0 : PV → R) (p1 : PV) (nx : Int × PV → R) : Int × PV → R := (fun s => f83_w1b0N k ret0 (fun n3 p4 => nx (n3, p4)) p1 s.1 s.2)
noncomputable def f83_w1N (k : Nat) (ret0 : PV → R) (p1 : PV) (n3 : Int) (p4 : PV) : R := loopR (f83_w1B k ret0 p1) k (n3, p4)
theorem f83_w1_eq (k : Nat) (retF : PV → R) (p1 : PV) (n3 : Int) (p4 : PV) : f83_w1A k retF p1 n3 p4 = f83_w1N k (fun y0 => retF y0) p1 n3 p4 :=
  Eq.mp (by kernel_rfl) (loop_sim (E := (f83_E k)) (c := f83_cw1) (K := (kont (f83_E k) f83_code [1, 1, 0, 1, 0] (endK (f83_E k) Try.f83 [] f83_un retF))) (S := Int × PV) (fun s => f83_hw1_0 p1 s.1 s.2) (f83_w1B k (fun y0 => retF y0) p1) (fun NX s => by
    exact Eq.mp (by kernel_rfl) (f83_w1b0_eq k retF NX p1 s.1 s.2)) k (n3, p4))

noncomputable def f83_e (ret0 : PV → R) (w1 : Int → PV → R) (p1 : PV) : R :=
  w1 0 (PV.agg (List.replicate 256 (PV.bool false)))

theorem f83_e_mem (k : Nat) (retF : PV → R) (p1 : PV) : exec (f83_E k) f83_code (endK (f83_E k) Try.f83 [] f83_un retF) ⟨[.val 23 p1, .undef, .undef, .undef, .undef, .undef, .undef, .undef, .undef, .undef, .undef, .undef, .undef, .undef, .undef, .undef, .undef, .undef, .undef, .undef, .undef, .undef], []⟩ = f83_e (fun y0 => retF y0) (fun n3 p4 => f83_w1A k retF p1 n3 p4) p1 := by kernel_rfl

noncomputable def f83_N (k : Nat) (ret0 : PV → R) (p1 : PV) : R :=
  f83_e ret0 (fun n3 p4 => f83_w1N k ret0 p1 n3 p4) p1
theorem f83_eq (k : Nat) (retF : PV → R) (p1 : PV) : exec (f83_E k) f83_code (endK (f83_E k) Try.f83 [] f83_un retF) ⟨[.val 23 p1, .undef, .undef, .undef, .undef, .undef, .undef, .undef, .undef, .undef, .undef, .undef, .undef, .undef, .undef, .undef, .undef, .undef, .undef, .undef, .undef, .undef], []⟩ = f83_N k (fun y0 => retF y0) p1 :=
  (f83_e_mem k retF p1).trans (by rw [show (fun n3 p4 => f83_w1A k retF p1 n3 p4) = (fun n3 p4 => f83_w1N k (fun y0 => retF y0) p1 n3 p4) from funext fun n3 => funext fun p4 => f83_w1_eq k retF p1 n3 p4]; rfl)

noncomputable def G83 : Nat → PV → (PV → R) → R
  | 0, _, _ => none
  | k + 1, p1, ret0 => f83_N k  ret0 p1
theorem S83 : ∀ k, Snd Try.prog 83 f83_I f83_O (fun x ret => G83 k x (fun y0 => ret y0))
  | 0 => snd_none
  | k + 1 => snd_step (E := f83_E k ) rfl laidOut noNums orc0_ok (f := 83) (fn := Try.f83) (code := f83_code) Try.func83 (by kernel_rfl) (drawsOk_of laidOut orc0_ok mixed (by kernel_rfl)) f83_un f83_un_ok [] (fun _ => rfl)
      (fun x ret => f83_eq k  ret x)

/- catchpole/catchpolelaw10.own -/
noncomputable def f66_I : PV → List SV × Obs := fun x => ([.val 24 x], [])
noncomputable def f66_D : List SV → Obs → Option (PV)
  | [.val 24 p1], [] => some p1
  | _, _ => none
theorem f66_D_ok (args : List SV) (B : Obs) (x : PV) (h : f66_D args B = some x) : f66_I x = (args, B) := by
  unfold f66_D at h
  split at h
  · injection h with h; subst h; rfl
  · cases h
noncomputable def f66_O : PV → Out := (fun y => ([.val 50 y], []))
noncomputable def f66_un : Out → Option (PV)
  | ([.val 50 y0], []) => some y0
  | _ => none
theorem f66_un_ok (o : Out) (y : PV) (h : f66_un o = some y) : o = f66_O y := by
  unfold f66_un at h
  split at h
  · injection h with h; subst h; rfl
  · cases h
noncomputable def f66_msk : Nat → Option (List Nat) := fun key =>  none
noncomputable def f66_C (c83 : PV → (PV → R) → R) : Oracle := orc 83 f83_D f83_O (fun x ret => c83 x (fun y0 => ret y0)) <| orc0
noncomputable def f66_E (k : Nat) (c83 : PV → (PV → R) → R) : Env := { P := Try.prog, nilOwn := fun d => false, fldOwn := fun d i => false, ownPar := ownPars, ownRet := false, mask := f66_msk, fuel := k, C := f66_C c83 }
noncomputable def f66_code : Code := Try.f66.body.getD .skip
noncomputable def f66_e (c83 : PV → (PV → R) → R) (ret0 : PV → R) (p1 : PV) : R :=
  c83 p1 fun p2 =>
  ret0 p2

theorem f66_e_mem (k : Nat) (c83 : PV → (PV → R) → R) (retF : PV → R) (p1 : PV) : exec (f66_E k c83) f66_code (endK (f66_E k c83) Try.f66 [] f66_un retF) ⟨[.val 24 p1, .undef, .undef, .undef, .undef], []⟩ = f66_e c83 (fun y0 => retF y0) p1 := by kernel_rfl

noncomputable def f66_N (k : Nat) (c83 : PV → (PV → R) → R) (ret0 : PV → R) (p1 : PV) : R :=
  f66_e c83 ret0 p1
theorem f66_eq (k : Nat) (c83 : PV → (PV → R) → R) (retF : PV → R) (p1 : PV) : exec (f66_E k c83) f66_code (endK (f66_E k c83) Try.f66 [] f66_un retF) ⟨[.val 24 p1, .undef, .undef, .undef, .undef], []⟩ = f66_N k c83 (fun y0 => retF y0) p1 :=
  (f66_e_mem k c83 retF p1)

noncomputable def G66 : Nat → PV → (PV → R) → R
  | 0, _, _ => none
  | k + 1, p1, ret0 => f66_N k (G83 k) ret0 p1
theorem S66 : ∀ k, Snd Try.prog 66 f66_I f66_O (fun x ret => G66 k x (fun y0 => ret y0))
  | 0 => snd_none
  | k + 1 => snd_step (E := f66_E k (G83 k)) rfl laidOut noNums (orc_ok (S83 k).o f83_D_ok orc0_ok) (f := 66) (fn := Try.f66) (code := f66_code) Try.func66 (by kernel_rfl) (drawsOk_of laidOut (orc_ok (S83 k).o f83_D_ok orc0_ok) mixed (by kernel_rfl)) f66_un f66_un_ok [] (fun _ => rfl)
      (fun x ret => f66_eq k (G83 k) ret x)

/- catchpole/catchpolelaw10.coreOf -/
noncomputable def f32_I : PV → List SV × Obs := fun x => ([.val 27 x], [])
noncomputable def f32_D : List SV → Obs → Option (PV)
  | [.val 27 p1], [] => some p1
  | _, _ => none
theorem f32_D_ok (args : List SV) (B : Obs) (x : PV) (h : f32_D args B = some x) : f32_I x = (args, B) := by
  unfold f32_D at h
  split at h
  · injection h with h; subst h; rfl
  · cases h
noncomputable def f32_O : PV → Out := (fun y => ([.val 53 y], []))
noncomputable def f32_un : Out → Option (PV)
  | ([.val 53 y0], []) => some y0
  | _ => none
theorem f32_un_ok (o : Out) (y : PV) (h : f32_un o = some y) : o = f32_O y := by
  unfold f32_un at h
  split at h
  · injection h with h; subst h; rfl
  · cases h
noncomputable def f32_msk : Nat → Option (List Nat) := fun key => bif key == 9 then some [1, 2, 3, 4] else none
noncomputable def f32_C (c32 : PV → (PV → R) → R) (c66 : PV → (PV → R) → R) : Oracle := orc 32 f32_D f32_O (fun x ret => c32 x (fun y0 => ret y0)) <| orc 66 f66_D f66_O (fun x ret => c66 x (fun y0 => ret y0)) <| orc0
noncomputable def f32_E (k : Nat) (c32 : PV → (PV → R) → R) (c66 : PV → (PV → R) → R) : Env := { P := Try.prog, nilOwn := fun d => false, fldOwn := fun d i => (d == 12 && i == 3), ownPar := ownPars, ownRet := false, mask := f32_msk, fuel := k, C := f32_C c32 c66 }
noncomputable def f32_code : Code := Try.f32.body.getD .skip
noncomputable def f32_cw1 : Code := subC f32_code [1, 1, 0, 1, 0, 0]
noncomputable def f32_hw1_0 (p1 : PV) (p2 : PV) : St := ⟨[.dead, .ptr 1 [], .ptr 2 [], .ptr 3 [], .int .i64 0, .dead, .dead, .dead, .dead, .dead, .dead, .dead, .dead, .dead, .dead, .dead, .dead, .dead, .dead, .dead, .dead, .dead, .dead, .dead, .dead, .dead, .dead, .dead, .dead, .dead, .dead, .dead], [(1, .box 27 (.val 27 p1)), (2, .box 53 (.val 53 (PV.agg [(PV.int 0), (PV.agg (List.replicate 256 (PV.bool false))), (PV.int 0), (PV.list [])]))), (3, .box 53 (.agg 53 [.int .i64 (PV.num (PV.fld p1 0)), .val 50 p2, .int .i64 (PV.num (PV.fld p1 2)), .nils]))]⟩
noncomputable def f32_hw1_1 (p1 : PV) (p2 : PV) (n8 : Int) (l9 : List PV) : St := ⟨[.dead, .ptr 1 [], .ptr 2 [], .ptr 3 [], .int .i64 n8, .dead, .dead, .dead, .dead, .dead, .dead, .dead, .dead, .dead, .dead, .dead, .dead, .dead, .dead, .dead, .dead, .dead, .dead, .dead, .dead, .dead, .dead, .dead, .dead, .dead, .dead, .dead], [(1, .box 27 (.val 27 p1)), (2, .box 53 (.val 53 (PV.agg [(PV.int 0), (PV.agg (List.replicate 256 (PV.bool false))), (PV.int 0), (PV.list [])]))), (3, .box 53 (.agg 53 [.int .i64 (PV.num (PV.fld p1 0)), .val 50 p2, .int .i64 (PV.num (PV.fld p1 2)), .own 51 29])), (29, .row 53 l9)]⟩
noncomputable def f32_w1A (k : Nat) (c32 : PV → (PV → R) → R) (c66 : PV → (PV → R) → R) (retF : PV → R) (p1 : PV) (p2 : PV) : R := loopM (f32_E k c32 c66) f32_cw1 (kont (f32_E k c32 c66) f32_code [1, 1, 0, 1, 0] (endK (f32_E k c32 c66) Try.f32 [] f32_un retF)) k (f32_hw1_0 p1 p2)
noncomputable def f32_w1b0 (c32 : PV → (PV → R) → R) (c66 : PV → (PV → R) → R) (ret0 : PV → R) (next_w1_0 : Unit → R) (next_w1_1 : Int → (List PV) → R) (p1 : PV) (p2 : PV) : R :=
  bif (decide ((0 : Int) < (List.length (PV.els (PV.fld p1 3)) : Int))) then
    bif (true && decide ((0 : Int) ≤ (0 : Int)) && decide ((0 : Int) < (List.length (PV.els (PV.fld p1 3)) : Int))) then
      c32 (List.getD (PV.els (PV.fld p1 3)) ((0 : Int)).toNat PV.nil) fun p7 =>
      next_w1_1 1 [p7]
    else none
  else ret0 (PV.agg [(PV.int (PV.num (PV.fld p1 0))), p2, (PV.int (PV.num (PV.fld p1 2))), (PV.list [])])

theorem f32_w1b0_mem (k : Nat) (c32 : PV → (PV → R) → R) (c66 : PV → (PV → R) → R) (retF : PV → R) (NX_w1 : St → R) (p1 : PV) (p2 : PV) : exec (f32_E k c32 c66) f32_cw1 (purgeK (f32_E k c32 c66) f32_cw1 (loopK NX_w1 (kont (f32_E k c32 c66) f32_code [1, 1, 0, 1, 0] (endK (f32_E k c32 c66) Try.f32 [] f32_un retF)))) (f32_hw1_0 p1 p2) = f32_w1b0 c32 c66 (fun y0 => retF y0) (fun _ => NX_w1 (f32_hw1_0 p1 p2)) (fun n8 l9 => NX_w1 (f32_hw1_1 p1 p2 n8 l9)) p1 p2 := by kernel_rfl

noncomputable def f32_w1b0N (k : Nat) (c32 : PV → (PV → R) → R) (c66 : PV → (PV → R) → R) (ret0 : PV → R) (next_w1_0 : Unit → R) (next_w1_1 : Int → (List PV) → R) (p1 : PV) (p2 : PV) : R :=
  f32_w1b0 c32 c66 ret0 next_w1_0 next_w1_1 p1 p2
theorem f32_w1b0_eq (k : Nat) (c32 : PV → (PV → R) → R) (c66 : PV → (PV → R) → R) (retF : PV → R) (NX_w1 : St → R) (p1 : PV) (p2 : PV) : exec (f32_E k c32 c66) f32_cw1 (purgeK (f32_E k c32 c66) f32_cw1 (loopK NX_w1 (kont (f32_E k c32 c66) f32_code [1, 1, 0, 1, 0] (endK (f32_E k c32 c66) Try.f32 [] f32_un retF)))) (f32_hw1_0 p1 p2) = f32_w1b0N k c32 c66 (fun y0 => retF y0) (fun _ => NX_w1 (f32_hw1_0 p1 p2)) (fun n8 l9 => NX_w1 (f32_hw1_1 p1 p2 n8 l9)) p1 p2 :=
  (f32_w1b0_mem k c32 c66 retF NX_w1 p1 p2)

noncomputable def f32_w1b1 (c32 : PV → (PV → R) → R) (c66 : PV → (PV → R) → R) (ret0 : PV → R) (next_w1_0 : Unit → R) (next_w1_1 : Int → (List PV) → R) (p1 : PV) (p2 : PV) (n8 : Int) (l9 : List PV) : R :=
  bif (decide (n8 < (List.length (PV.els (PV.fld p1 3)) : Int))) then
    bif (true && decide ((0 : Int) ≤ n8) && decide (n8 < (List.length (PV.els (PV.fld p1 3)) : Int))) then
      c32 (List.getD (PV.els (PV.fld p1 3)) (n8).toNat PV.nil) fun p10 =>
      bif (true && roomy (List.length l9 + List.length [p10]) 296) then
        next_w1_1 (IntKind.wrap .i64 (n8 + (1 : Int))) (l9 ++ [p10])
      else none
    else none
  else ret0 (PV.agg [(PV.int (PV.num (PV.fld p1 0))), p2, (PV.int (PV.num (PV.fld p1 2))), (PV.list l9)])

theorem f32_w1b1_mem (k : Nat) (c32 : PV → (PV → R) → R) (c66 : PV → (PV → R) → R) (retF : PV → R) (NX_w1 : St → R) (p1 : PV) (p2 : PV) (n8 : Int) (l9 : List PV) : exec (f32_E k c32 c66) f32_cw1 (purgeK (f32_E k c32 c66) f32_cw1 (loopK NX_w1 (kont (f32_E k c32 c66) f32_code [1, 1, 0, 1, 0] (endK (f32_E k c32 c66) Try.f32 [] f32_un retF)))) (f32_hw1_1 p1 p2 n8 l9) = f32_w1b1 c32 c66 (fun y0 => retF y0) (fun _ => NX_w1 (f32_hw1_0 p1 p2)) (fun n8 l9 => NX_w1 (f32_hw1_1 p1 p2 n8 l9)) p1 p2 n8 l9 := by kernel_rfl

noncomputable def f32_w1b1N (k : Nat) (c32 : PV → (PV → R) → R) (c66 : PV → (PV → R) → R) (ret0 : PV → R) (next_w1_0 : Unit → R) (next_w1_1 : Int → (List PV) → R) (p1 : PV) (p2 : PV) (n8 : Int) (l9 : List PV) : R :=
  f32_w1b1 c32 c66 ret0 next_w1_0 next_w1_1 p1 p2 n8 l9
theorem f32_w1b1_eq (k : Nat) (c32 : PV → (PV → R) → R) (c66 : PV → (PV → R) → R) (retF : PV → R) (NX_w1 : St → R) (p1 : PV) (p2 : PV) (n8 : Int) (l9 : List PV) : exec (f32_E k c32 c66) f32_cw1 (purgeK (f32_E k c32 c66) f32_cw1 (loopK NX_w1 (kont (f32_E k c32 c66) f32_code [1, 1, 0, 1, 0] (endK (f32_E k c32 c66) Try.f32 [] f32_un retF)))) (f32_hw1_1 p1 p2 n8 l9) = f32_w1b1N k c32 c66 (fun y0 => retF y0) (fun _ => NX_w1 (f32_hw1_0 p1 p2)) (fun n8 l9 => NX_w1 (f32_hw1_1 p1 p2 n8 l9)) p1 p2 n8 l9 :=
  (f32_w1b1_mem k c32 c66 retF NX_w1 p1 p2 n8 l9)

noncomputable def f32_w1B (k : Nat) (c32 : PV → (PV → R) → R) (c66 : PV → (PV → R) → R) (ret0 : PV → R) (p1 : PV) (p2 : PV) (nx : Sum (Unit) (Int × (List PV)) → R) : Sum (Unit) (Int × (List PV)) → R := (Sum.elim (fun s => f32_w1b0N k c32 c66 ret0 (fun _ => nx (.inl ())) (fun n8 l9 => nx (.inr (n8, l9))) p1 p2) (fun s => f32_w1b1N k c32 c66 ret0 (fun _ => nx (.inl ())) (fun n8 l9 => nx (.inr (n8, l9))) p1 p2 s.1 s.2))
noncomputable def f32_w1N (k : Nat) (c32 : PV → (PV → R) → R) (c66 : PV → (PV → R) → R) (ret0 : PV → R) (p1 : PV) (p2 : PV) : R := loopR (f32_w1B k c32 c66 ret0 p1 p2) k (.inl ())
theorem f32_w1_eq (k : Nat) (c32 : PV → (PV → R) → R) (c66 : PV → (PV → R) → R) (retF : PV → R) (p1 : PV) (p2 : PV) : f32_w1A k c32 c66 retF p1 p2 = f32_w1N k c32 c66 (fun y0 => retF y0) p1 p2 :=
  Eq.mp (by kernel_rfl) (loop_sim (E := (f32_E k c32 c66)) (c := f32_cw1) (K := (kont (f32_E k c32 c66) f32_code [1, 1, 0, 1, 0] (endK (f32_E k c32 c66) Try.f32 [] f32_un retF))) (S := Sum (Unit) (Int × (List PV))) (Sum.elim (fun s => f32_hw1_0 p1 p2) (fun s => f32_hw1_1 p1 p2 s.1 s.2)) (f32_w1B k c32 c66 (fun y0 => retF y0) p1 p2) (fun NX s => by
    cases s with
    | inl s => exact Eq.mp (by kernel_rfl) (f32_w1b0_eq k c32 c66 retF NX p1 p2)
    | inr s =>
      exact Eq.mp (by kernel_rfl) (f32_w1b1_eq k c32 c66 retF NX p1 p2 s.1 s.2)) k (.inl ()))

noncomputable def f32_e (c32 : PV → (PV → R) → R) (c66 : PV → (PV → R) → R) (ret0 : PV → R) (w1 : PV → R) (p1 : PV) : R :=
  c66 (PV.fld p1 1) fun p2 =>
  w1 p2

theorem f32_e_mem (k : Nat) (c32 : PV → (PV → R) → R) (c66 : PV → (PV → R) → R) (retF : PV → R) (p1 : PV) : exec (f32_E k c32 c66) f32_code (endK (f32_E k c32 c66) Try.f32 [] f32_un retF) ⟨[.val 27 p1, .undef, .undef, .undef, .undef, .undef, .undef, .undef, .undef, .undef, .undef, .undef, .undef, .undef, .undef, .undef, .undef, .undef, .undef, .undef, .undef, .undef, .undef, .undef, .undef, .undef, .undef, .undef, .undef, .undef, .undef, .undef], []⟩ = f32_e c32 c66 (fun y0 => retF y0) (fun p2 => f32_w1A k c32 c66 retF p1 p2) p1 := by kernel_rfl

noncomputable def f32_N (k : Nat) (c32 : PV → (PV → R) → R) (c66 : PV → (PV → R) → R) (ret0 : PV → R) (p1 : PV) : R :=
  f32_e c32 c66 ret0 (fun p2 => f32_w1N k c32 c66 ret0 p1 p2) p1
theorem f32_eq (k : Nat) (c32 : PV → (PV → R) → R) (c66 : PV → (PV → R) → R) (retF : PV → R) (p1 : PV) : exec (f32_E k c32 c66) f32_code (endK (f32_E k c32 c66) Try.f32 [] f32_un retF) ⟨[.val 27 p1, .undef, .undef, .undef, .undef, .undef, .undef, .undef, .undef, .undef, .undef, .undef, .undef, .undef, .undef, .undef, .undef, .undef, .undef, .undef, .undef, .undef, .undef, .undef, .undef, .undef, .undef, .undef, .undef, .undef, .undef, .undef], []⟩ = f32_N k c32 c66 (fun y0 => retF y0) p1 :=
  (f32_e_mem k c32 c66 retF p1).trans (by rw [show (fun p2 => f32_w1A k c32 c66 retF p1 p2) = (fun p2 => f32_w1N k c32 c66 (fun y0 => retF y0) p1 p2) from funext fun p2 => f32_w1_eq k c32 c66 retF p1 p2]; rfl)

noncomputable def G32 : Nat → PV → (PV → R) → R
  | 0, _, _ => none
  | k + 1, p1, ret0 => f32_N k (G32 k) (G66 k) ret0 p1
theorem S32 : ∀ k, Snd Try.prog 32 f32_I f32_O (fun x ret => G32 k x (fun y0 => ret y0))
  | 0 => snd_none
  | k + 1 => snd_step (E := f32_E k (G32 k) (G66 k)) rfl laidOut noNums (orc_ok (S32 k).o f32_D_ok (orc_ok (S66 k).o f66_D_ok orc0_ok)) (f := 32) (fn := Try.f32) (code := f32_code) Try.func32 (by kernel_rfl) (drawsOk_of laidOut (orc_ok (S32 k).o f32_D_ok (orc_ok (S66 k).o f66_D_ok orc0_ok)) mixed (by kernel_rfl)) f32_un f32_un_ok [] (fun _ => rfl)
      (fun x ret => f32_eq k (G32 k) (G66 k) ret x)

/- catchpole/catchpolelaw10.valueOf -/
noncomputable def f33_I : PV → List SV × Obs := fun x => ([.val 30 x], [])
noncomputable def f33_D : List SV → Obs → Option (PV)
  | [.val 30 p1], [] => some p1
  | _, _ => none
theorem f33_D_ok (args : List SV) (B : Obs) (x : PV) (h : f33_D args B = some x) : f33_I x = (args, B) := by
  unfold f33_D at h
  split at h
  · injection h with h; subst h; rfl
  · cases h
noncomputable def f33_O : PV → Out := (fun y => ([.val 57 y], []))
noncomputable def f33_un : Out → Option (PV)
  | ([.val 57 y0], []) => some y0
  | _ => none
theorem f33_un_ok (o : Out) (y : PV) (h : f33_un o = some y) : o = f33_O y := by
  unfold f33_un at h
  split at h
  · injection h with h; subst h; rfl
  · cases h
noncomputable def f33_msk : Nat → Option (List Nat) := fun key => bif key == 9 then some [1, 2, 3, 4] else none
noncomputable def f33_C (c33 : PV → (PV → R) → R) : Oracle := orc 33 f33_D f33_O (fun x ret => c33 x (fun y0 => ret y0)) <| orc0
noncomputable def f33_E (k : Nat) (c33 : PV → (PV → R) → R) : Env := { P := Try.prog, nilOwn := fun d => false, fldOwn := fun d i => (d == 9 && i == 2), ownPar := ownPars, ownRet := false, mask := f33_msk, fuel := k, C := f33_C c33 }
noncomputable def f33_code : Code := Try.f33.body.getD .skip
noncomputable def f33_cw1 : Code := subC f33_code [1, 1, 0, 1, 0, 0]
noncomputable def f33_hw1_0 (p1 : PV) : St := ⟨[.dead, .ptr 1 [], .ptr 2 [], .ptr 3 [], .int .i64 0, .dead, .dead, .dead, .dead, .dead, .dead, .dead, .dead, .dead, .dead, .dead, .dead, .dead, .dead, .dead, .dead, .dead, .dead, .dead, .dead, .dead, .dead, .dead, .dead], [(1, .box 30 (.val 30 p1)), (2, .box 57 (.val 57 (PV.agg [(PV.int 0), (PV.int 0), (PV.list [])]))), (3, .box 57 (.agg 57 [.int .i64 (PV.num (PV.fld p1 0)), .int .u8 (PV.num (PV.fld p1 1)), .nils]))]⟩
noncomputable def f33_hw1_1 (p1 : PV) (n7 : Int) (l8 : List PV) : St := ⟨[.dead, .ptr 1 [], .ptr 2 [], .ptr 3 [], .int .i64 n7, .dead, .dead, .dead, .dead, .dead, .dead, .dead, .dead, .dead, .dead, .dead, .dead, .dead, .dead, .dead, .dead, .dead, .dead, .dead, .dead, .dead, .dead, .dead, .dead], [(1, .box 30 (.val 30 p1)), (2, .box 57 (.val 57 (PV.agg [(PV.int 0), (PV.int 0), (PV.list [])]))), (3, .box 57 (.agg 57 [.int .i64 (PV.num (PV.fld p1 0)), .int .u8 (PV.num (PV.fld p1 1)), .own 55 26])), (26, .row 57 l8)]⟩
noncomputable def f33_w1A (k : Nat) (c33 : PV → (PV → R) → R) (retF : PV → R) (p1 : PV) : R := loopM (f33_E k c33) f33_cw1 (kont (f33_E k c33) f33_code [1, 1, 0, 1, 0] (endK (f33_E k c33) Try.f33 [] f33_un retF)) k (f33_hw1_0 p1)
noncomputable def f33_w1b0 (c33 : PV → (PV → R) → R) (ret0 : PV → R) (next_w1_0 : Unit → R) (next_w1_1 : Int → (List PV) → R) (p1 : PV) : R :=
  bif (decide ((0 : Int) < (List.length (PV.els (PV.fld p1 2)) : Int))) then
    bif (true && decide ((0 : Int) ≤ (0 : Int)) && decide ((0 : Int) < (List.length (PV.els (PV.fld p1 2)) : Int))) then
      c33 (List.getD (PV.els (PV.fld p1 2)) ((0 : Int)).toNat PV.nil) fun p6 =>
      next_w1_1 1 [p6]
    else none
  else ret0 (PV.agg [(PV.int (PV.num (PV.fld p1 0))), (PV.int (PV.num (PV.fld p1 1))), (PV.list [])])

theorem f33_w1b0_mem (k : Nat) (c33 : PV → (PV → R) → R) (retF : PV → R) (NX_w1 : St → R) (p1 : PV) : exec (f33_E k c33) f33_cw1 (purgeK (f33_E k c33) f33_cw1 (loopK NX_w1 (kont (f33_E k c33) f33_code [1, 1, 0, 1, 0] (endK (f33_E k c33) Try.f33 [] f33_un retF)))) (f33_hw1_0 p1) = f33_w1b0 c33 (fun y0 => retF y0) (fun _ => NX_w1 (f33_hw1_0 p1)) (fun n7 l8 => NX_w1 (f33_hw1_1 p1 n7 l8)) p1 := by kernel_rfl

noncomputable def f33_w1b0N (k : Nat) (c33 : PV → (PV → R) → R) (ret0 : PV → R) (next_w1_0 : Unit → R) (next_w1_1 : Int → (List PV) → R) (p1 : PV) : R :=
  f33_w1b0 c33 ret0 next_w1_0 next_w1_1 p1
theorem f33_w1b0_eq (k : Nat) (c33 : PV → (PV → R) → R) (retF : PV → R) (NX_w1 : St → R) (p1 : PV) : exec (f33_E k c33) f33_cw1 (purgeK (f33_E k c33) f33_cw1 (loopK NX_w1 (kont (f33_E k c33) f33_code [1, 1, 0, 1, 0] (endK (f33_E k c33) Try.f33 [] f33_un retF)))) (f33_hw1_0 p1) = f33_w1b0N k c33 (fun y0 => retF y0) (fun _ => NX_w1 (f33_hw1_0 p1)) (fun n7 l8 => NX_w1 (f33_hw1_1 p1 n7 l8)) p1 :=
  (f33_w1b0_mem k c33 retF NX_w1 p1)

noncomputable def f33_w1b1 (c33 : PV → (PV → R) → R) (ret0 : PV → R) (next_w1_0 : Unit → R) (next_w1_1 : Int → (List PV) → R) (p1 : PV) (n7 : Int) (l8 : List PV) : R :=
  bif (decide (n7 < (List.length (PV.els (PV.fld p1 2)) : Int))) then
    bif (true && decide ((0 : Int) ≤ n7) && decide (n7 < (List.length (PV.els (PV.fld p1 2)) : Int))) then
      c33 (List.getD (PV.els (PV.fld p1 2)) (n7).toNat PV.nil) fun p9 =>
      bif (true && roomy (List.length l8 + List.length [p9]) 40) then
        next_w1_1 (IntKind.wrap .i64 (n7 + (1 : Int))) (l8 ++ [p9])
      else none
    else none
  else ret0 (PV.agg [(PV.int (PV.num (PV.fld p1 0))), (PV.int (PV.num (PV.fld p1 1))), (PV.list l8)])

theorem f33_w1b1_mem (k : Nat) (c33 : PV → (PV → R) → R) (retF : PV → R) (NX_w1 : St → R) (p1 : PV) (n7 : Int) (l8 : List PV) : exec (f33_E k c33) f33_cw1 (purgeK (f33_E k c33) f33_cw1 (loopK NX_w1 (kont (f33_E k c33) f33_code [1, 1, 0, 1, 0] (endK (f33_E k c33) Try.f33 [] f33_un retF)))) (f33_hw1_1 p1 n7 l8) = f33_w1b1 c33 (fun y0 => retF y0) (fun _ => NX_w1 (f33_hw1_0 p1)) (fun n7 l8 => NX_w1 (f33_hw1_1 p1 n7 l8)) p1 n7 l8 := by kernel_rfl

noncomputable def f33_w1b1N (k : Nat) (c33 : PV → (PV → R) → R) (ret0 : PV → R) (next_w1_0 : Unit → R) (next_w1_1 : Int → (List PV) → R) (p1 : PV) (n7 : Int) (l8 : List PV) : R :=
  f33_w1b1 c33 ret0 next_w1_0 next_w1_1 p1 n7 l8
theorem f33_w1b1_eq (k : Nat) (c33 : PV → (PV → R) → R) (retF : PV → R) (NX_w1 : St → R) (p1 : PV) (n7 : Int) (l8 : List PV) : exec (f33_E k c33) f33_cw1 (purgeK (f33_E k c33) f33_cw1 (loopK NX_w1 (kont (f33_E k c33) f33_code [1, 1, 0, 1, 0] (endK (f33_E k c33) Try.f33 [] f33_un retF)))) (f33_hw1_1 p1 n7 l8) = f33_w1b1N k c33 (fun y0 => retF y0) (fun _ => NX_w1 (f33_hw1_0 p1)) (fun n7 l8 => NX_w1 (f33_hw1_1 p1 n7 l8)) p1 n7 l8 :=
  (f33_w1b1_mem k c33 retF NX_w1 p1 n7 l8)

noncomputable def f33_w1B (k : Nat) (c33 : PV → (PV → R) → R) (ret0 : PV → R) (p1 : PV) (nx : Sum (Unit) (Int × (List PV)) → R) : Sum (Unit) (Int × (List PV)) → R := (Sum.elim (fun s => f33_w1b0N k c33 ret0 (fun _ => nx (.inl ())) (fun n7 l8 => nx (.inr (n7, l8))) p1) (fun s => f33_w1b1N k c33 ret0 (fun _ => nx (.inl ())) (fun n7 l8 => nx (.inr (n7, l8))) p1 s.1 s.2))
noncomputable def f33_w1N (k : Nat) (c33 : PV → (PV → R) → R) (ret0 : PV → R) (p1 : PV) : R := loopR (f33_w1B k c33 ret0 p1) k (.inl ())
theorem f33_w1_eq (k : Nat) (c33 : PV → (PV → R) → R) (retF : PV → R) (p1 : PV) : f33_w1A k c33 retF p1 = f33_w1N k c33 (fun y0 => retF y0) p1 :=
  Eq.mp (by kernel_rfl) (loop_sim (E := (f33_E k c33)) (c := f33_cw1) (K := (kont (f33_E k c33) f33_code [1, 1, 0, 1, 0] (endK (f33_E k c33) Try.f33 [] f33_un retF))) (S := Sum (Unit) (Int × (List PV))) (Sum.elim (fun s => f33_hw1_0 p1) (fun s => f33_hw1_1 p1 s.1 s.2)) (f33_w1B k c33 (fun y0 => retF y0) p1) (fun NX s => by
    cases s with
    | inl s => exact Eq.mp (by kernel_rfl) (f33_w1b0_eq k c33 retF NX p1)
    | inr s =>
      exact Eq.mp (by kernel_rfl) (f33_w1b1_eq k c33 retF NX p1 s.1 s.2)) k (.inl ()))

noncomputable def f33_e (c33 : PV → (PV → R) → R) (ret0 : PV → R) (w1 : Unit → R) (p1 : PV) : R :=
  w1 ()

theorem f33_e_mem (k : Nat) (c33 : PV → (PV → R) → R) (retF : PV → R) (p1 : PV) : exec (f33_E k c33) f33_code (endK (f33_E k c33) Try.f33 [] f33_un retF) ⟨[.val 30 p1, .undef, .undef, .undef, .undef, .undef, .undef, .undef, .undef, .undef, .undef, .undef, .undef, .undef, .undef, .undef, .undef, .undef, .undef, .undef, .undef, .undef, .undef, .undef, .undef, .undef, .undef, .undef, .undef], []⟩ = f33_e c33 (fun y0 => retF y0) (fun _ => f33_w1A k c33 retF p1) p1 := by kernel_rfl

noncomputable def f33_N (k : Nat) (c33 : PV → (PV → R) → R) (ret0 : PV → R) (p1 : PV) : R :=
  f33_e c33 ret0 (fun _ => f33_w1N k c33 ret0 p1) p1
theorem f33_eq (k : Nat) (c33 : PV → (PV → R) → R) (retF : PV → R) (p1 : PV) : exec (f33_E k c33) f33_code (endK (f33_E k c33) Try.f33 [] f33_un retF) ⟨[.val 30 p1, .undef, .undef, .undef, .undef, .undef, .undef, .undef, .undef, .undef, .undef, .undef, .undef, .undef, .undef, .undef, .undef, .undef, .undef, .undef, .undef, .undef, .undef, .undef, .undef, .undef, .undef, .undef, .undef], []⟩ = f33_N k c33 (fun y0 => retF y0) p1 :=
  (f33_e_mem k c33 retF p1).trans (by rw [show (fun _ => f33_w1A k c33 retF p1) = (fun _ => f33_w1N k c33 (fun y0 => retF y0) p1) from funext fun _ => f33_w1_eq k c33 retF p1]; rfl)

noncomputable def G33 : Nat → PV → (PV → R) → R
  | 0, _, _ => none
  | k + 1, p1, ret0 => f33_N k (G33 k) ret0 p1
theorem S33 : ∀ k, Snd Try.prog 33 f33_I f33_O (fun x ret => G33 k x (fun y0 => ret y0))
  | 0 => snd_none
  | k + 1 => snd_step (E := f33_E k (G33 k)) rfl laidOut noNums (orc_ok (S33 k).o f33_D_ok orc0_ok) (f := 33) (fn := Try.f33) (code := f33_code) Try.func33 (by kernel_rfl) (drawsOk_of laidOut (orc_ok (S33 k).o f33_D_ok orc0_ok) mixed (by kernel_rfl)) f33_un f33_un_ok [] (fun _ => rfl)
      (fun x ret => f33_eq k (G33 k) ret x)

/- catchpole/catchpoleref8.Size -/
noncomputable def f84_I : PV × Int → List SV × Obs := fun x => ([.val 53 x.1, .int .i64 x.2], [])
noncomputable def f84_D : List SV → Obs → Option (PV × Int)
  | [.val 53 p1, .int .i64 n2], [] => some (p1, n2)
  | _, _ => none
theorem f84_D_ok (args : List SV) (B : Obs) (x : PV × Int) (h : f84_D args B = some x) : f84_I x = (args, B) := by
  unfold f84_D at h
  split at h
  · injection h with h; subst h; rfl
  · cases h
noncomputable def f84_O : Int → Out := (fun y => ([.int .i64 y], []))
noncomputable def f84_un : Out → Option (Int)
  | ([.int .i64 y0], []) => some y0
  | _ => none
theorem f84_un_ok (o : Out) (y : Int) (h : f84_un o = some y) : o = f84_O y := by
  unfold f84_un at h
  split at h
  · injection h with h; subst h; rfl
  · cases h
noncomputable def f84_msk : Nat → Option (List Nat) := fun key => bif key == 9 then some [1, 2, 5, 6] else none
noncomputable def f84_C (c84 : PV → Int → (Int → R) → R) : Oracle := orc 84 f84_D f84_O (fun x ret => c84 x.1 x.2 (fun y0 => ret y0)) <| orc0
noncomputable def f84_E (k : Nat) (c84 : PV → Int → (Int → R) → R) : Env := { P := Try.prog, nilOwn := fun d => false, fldOwn := fun d i => false, ownPar := ownPars, ownRet := false, mask := f84_msk, fuel := k, C := f84_C c84 }
noncomputable def f84_code : Code := Try.f84.body.getD .skip
noncomputable def f84_cw1 : Code := subC f84_code [1, 1, 0, 1, 0, 0]
noncomputable def f84_hw1_0 (p1 : PV) (n2 : Int) (n4 : Int) (n5 : Int) : St := ⟨[.dead, .int .i64 n2, .ptr 2 [], .dead, .dead, .int .i64 n4, .int .i64 n5, .dead, .dead, .dead, .dead, .dead, .dead, .dead, .dead, .dead, .dead, .dead, .dead, .dead, .dead, .dead, .dead, .dead, .dead, .dead, .dead, .dead, .dead, .dead, .dead, .dead, .dead, .dead, .dead], [(2, .box 53 (.val 53 p1))]⟩
noncomputable def f84_w1A (k : Nat) (c84 : PV → Int → (Int → R) → R) (retF : Int → R) (p1 : PV) (n2 : Int) (n4 : Int) (n5 : Int) : R := loopM (f84_E k c84) f84_cw1 (kont (f84_E k c84) f84_code [1, 1, 0, 1, 0] (endK (f84_E k c84) Try.f84 [] f84_un retF)) k (f84_hw1_0 p1 n2 n4 n5)
noncomputable def f84_w1b0 (c84 : PV → Int → (Int → R) → R) (ret0 : Int → R) (next_w1_0 : Int → Int → R) (p1 : PV) (n2 : Int) (n4 : Int) (n5 : Int) : R :=
  bif ((decide (n5 < (List.length (PV.els (PV.fld p1 3)) : Int))) == true) then
    bif (decide (n4 ≤ n2)) then
      bif (true && decide ((0 : Int) ≤ n5) && decide (n5 < (List.length (PV.els (PV.fld p1 3)) : Int))) then
        c84 (List.getD (PV.els (PV.fld p1 3)) (n5).toNat PV.nil) (IntKind.wrap .i64 (n2 - n4)) fun n6 =>
        next_w1_0 (IntKind.wrap .i64 (n4 + n6)) (IntKind.wrap .i64 (n5 + (1 : Int)))
      else none
    else bif (decide (n2 < n4)) then
      ret0 n2
    else ret0 n4
  else bif (decide (n2 < n4)) then
    ret0 n2
  else ret0 n4

theorem f84_w1b0_mem (k : Nat) (c84 : PV → Int → (Int → R) → R) (retF : Int → R) (NX_w1 : St → R) (p1 : PV) (n2 : Int) (n4 : Int) (n5 : Int) : exec (f84_E k c84) f84_cw1 (purgeK (f84_E k c84) f84_cw1 (loopK NX_w1 (kont (f84_E k c84) f84_code [1, 1, 0, 1, 0] (endK (f84_E k c84) Try.f84 [] f84_un retF)))) (f84_hw1_0 p1 n2 n4 n5) = f84_w1b0 c84 (fun y0 => retF y0) (fun n4 n5 => NX_w1 (f84_hw1_0 p1 n2 n4 n5)) p1 n2 n4 n5 := by kernel_rfl

noncomputable def f84_w1b0N (k : Nat) (c84 : PV → Int → (Int → R) → R) (ret0 : Int → R) (next_w1_0 : Int → Int → R) (p1 : PV) (n2 : Int) (n4 : Int) (n5 : Int) : R :=
  f84_w1b0 c84 ret0 next_w1_0 p1 n2 n4 n5
theorem f84_w1b0_eq (k : Nat) (c84 : PV → Int → (Int → R) → R) (retF : Int → R) (NX_w1 : St → R) (p1 : PV) (n2 : Int) (n4 : Int) (n5 : Int) : exec (f84_E k c84) f84_cw1 (purgeK (f84_E k c84) f84_cw1 (loopK NX_w1 (kont (f84_E k c84) f84_code [1, 1, 0, 1, 0] (endK (f84_E k c84) Try.f84 [] f84_un retF)))) (f84_hw1_0 p1 n2 n4 n5) = f84_w1b0N k c84 (fun y0 => retF y0) (fun n4 n5 => NX_w1 (f84_hw1_0 p1 n2 n4 n5)) p1 n2 n4 n5 :=
  (f84_w1b0_mem k c84 retF NX_w1 p1 n2 n4 n5)

noncomputable def f84_w1B (k : Nat) (c84 : PV → Int → (Int → R) → R) (ret0 : Int → R) (p1 : PV) (n2 : Int) (nx : Int × Int → R) : Int × Int → R := (fun s => f84_w1b0N k c84 ret0 (fun n4 n5 => nx (n4, n5)) p1 n2 s.1 s.2)
noncomputable def f84_w1N (k : Nat) (c84 : PV → Int → (Int → R) → R) (ret0 : Int → R) (p1 : PV) (n2 : Int) (n4 : Int) (n5 : Int) : R := loopR (f84_w1B k c84 ret0 p1 n2) k (n4, n5)
theorem f84_w1_eq (k : Nat) (c84 : PV → Int → (Int → R) → R) (retF : Int → R) (p1 : PV) (n2 : Int) (n4 : Int) (n5 : Int) : f84_w1A k c84 retF p1 n2 n4 n5 = f84_w1N k c84 (fun y0 => retF y0) p1 n2 n4 n5 :=
  Eq.mp (by kernel_rfl) (loop_sim (E := (f84_E k c84)) (c := f84_cw1) (K := (kont (f84_E k c84) f84_code [1, 1, 0, 1, 0] (endK (f84_E k c84) Try.f84 [] f84_un retF))) (S := Int × Int) (fun s => f84_hw1_0 p1 n2 s.1 s.2) (f84_w1B k c84 (fun y0 => retF y0) p1 n2) (fun NX s => by
    exact Eq.mp (by kernel_rfl) (f84_w1b0_eq k c84 retF NX p1 n2 s.1 s.2)) k (n4, n5))

noncomputable def f84_e (c84 : PV → Int → (Int → R) → R) (ret0 : Int → R) (w1 : Int → Int → R) (p1 : PV) (n2 : Int) : R :=
  w1 1 0

theorem f84_e_mem (k : Nat) (c84 : PV → Int → (Int → R) → R) (retF : Int → R) (p1 : PV) (n2 : Int) : exec (f84_E k c84) f84_code (endK (f84_E k c84) Try.f84 [] f84_un retF) ⟨[.val 53 p1, .int .i64 n2, .undef, .undef, .undef, .undef, .undef, .undef, .undef, .undef, .undef, .undef, .undef, .undef, .undef, .undef, .undef, .undef, .undef, .undef, .undef, .undef, .undef, .undef, .undef, .undef, .undef, .undef, .undef, .undef, .undef, .undef, .undef, .undef, .undef], []⟩ = f84_e c84 (fun y0 => retF y0) (fun n4 n5 => f84_w1A k c84 retF p1 n2 n4 n5) p1 n2 := by kernel_rfl

noncomputable def f84_N (k : Nat) (c84 : PV → Int → (Int → R) → R) (ret0 : Int → R) (p1 : PV) (n2 : Int) : R :=
  f84_e c84 ret0 (fun n4 n5 => f84_w1N k c84 ret0 p1 n2 n4 n5) p1 n2
theorem f84_eq (k : Nat) (c84 : PV → Int → (Int → R) → R) (retF : Int → R) (p1 : PV) (n2 : Int) : exec (f84_E k c84) f84_code (endK (f84_E k c84) Try.f84 [] f84_un retF) ⟨[.val 53 p1, .int .i64 n2, .undef, .undef, .undef, .undef, .undef, .undef, .undef, .undef, .undef, .undef, .undef, .undef, .undef, .undef, .undef, .undef, .undef, .undef, .undef, .undef, .undef, .undef, .undef, .undef, .undef, .undef, .undef, .undef, .undef, .undef, .undef, .undef, .undef], []⟩ = f84_N k c84 (fun y0 => retF y0) p1 n2 :=
  (f84_e_mem k c84 retF p1 n2).trans (by rw [show (fun n4 n5 => f84_w1A k c84 retF p1 n2 n4 n5) = (fun n4 n5 => f84_w1N k c84 (fun y0 => retF y0) p1 n2 n4 n5) from funext fun n4 => funext fun n5 => f84_w1_eq k c84 retF p1 n2 n4 n5]; rfl)

noncomputable def G84 : Nat → PV → Int → (Int → R) → R
  | 0, _, _, _ => none
  | k + 1, p1, n2, ret0 => f84_N k (G84 k) ret0 p1 n2
theorem S84 : ∀ k, Snd Try.prog 84 f84_I f84_O (fun x ret => G84 k x.1 x.2 (fun y0 => ret y0))
  | 0 => snd_none
  | k + 1 => snd_step (E := f84_E k (G84 k)) rfl laidOut noNums (orc_ok (S84 k).o f84_D_ok orc0_ok) (f := 84) (fn := Try.f84) (code := f84_code) Try.func84 (by kernel_rfl) (drawsOk_of laidOut (orc_ok (S84 k).o f84_D_ok orc0_ok) mixed (by kernel_rfl)) f84_un f84_un_ok [] (fun _ => rfl)
      (fun x ret => f84_eq k (G84 k) ret x.1 x.2)

/- catchpole/catchpoleref8.deep -/
noncomputable def f85_I : PV × Int → List SV × Obs := fun x => ([.val 53 x.1, .int .i64 x.2], [])
noncomputable def f85_D : List SV → Obs → Option (PV × Int)
  | [.val 53 p1, .int .i64 n2], [] => some (p1, n2)
  | _, _ => none
theorem f85_D_ok (args : List SV) (B : Obs) (x : PV × Int) (h : f85_D args B = some x) : f85_I x = (args, B) := by
  unfold f85_D at h
  split at h
  · injection h with h; subst h; rfl
  · cases h
noncomputable def f85_O : Int → Out := (fun y => ([.int .i64 y], []))
noncomputable def f85_un : Out → Option (Int)
  | ([.int .i64 y0], []) => some y0
  | _ => none
theorem f85_un_ok (o : Out) (y : Int) (h : f85_un o = some y) : o = f85_O y := by
  unfold f85_un at h
  split at h
  · injection h with h; subst h; rfl
  · cases h
noncomputable def f85_msk : Nat → Option (List Nat) := fun key => bif key == 15 then some [1, 2, 5, 6] else none
noncomputable def f85_C (c85 : PV → Int → (Int → R) → R) : Oracle := orc 85 f85_D f85_O (fun x ret => c85 x.1 x.2 (fun y0 => ret y0)) <| orc0
noncomputable def f85_E (k : Nat) (c85 : PV → Int → (Int → R) → R) : Env := { P := Try.prog, nilOwn := fun d => false, fldOwn := fun d i => false, ownPar := ownPars, ownRet := false, mask := f85_msk, fuel := k, C := f85_C c85 }
noncomputable def f85_code : Code := Try.f85.body.getD .skip
noncomputable def f85_cw1 : Code := subC f85_code [1, 1, 1, 0, 1, 0, 0]
noncomputable def f85_hw1_0 (p1 : PV) (n2 : Int) (n4 : Int) (n5 : Int) : St := ⟨[.dead, .int .i64 n2, .ptr 2 [], .dead, .dead, .int .i64 n4, .int .i64 n5, .dead, .dead, .dead, .dead, .dead, .dead, .dead, .dead, .dead, .dead, .dead, .dead, .dead, .dead, .dead, .dead, .dead, .dead, .dead, .dead, .dead, .dead, .dead, .dead], [(2, .box 53 (.val 53 p1))]⟩
noncomputable def f85_w1A (k : Nat) (c85 : PV → Int → (Int → R) → R) (retF : Int → R) (p1 : PV) (n2 : Int) (n4 : Int) (n5 : Int) : R := loopM (f85_E k c85) f85_cw1 (kont (f85_E k c85) f85_code [1, 1, 1, 0, 1, 0] (endK (f85_E k c85) Try.f85 [] f85_un retF)) k (f85_hw1_0 p1 n2 n4 n5)
noncomputable def f85_w1b0 (c85 : PV → Int → (Int → R) → R) (ret0 : Int → R) (next_w1_0 : Int → Int → R) (p1 : PV) (n2 : Int) (n4 : Int) (n5 : Int) : R :=
  bif (decide (n5 < (List.length (PV.els (PV.fld p1 3)) : Int))) then
    bif (true && decide ((0 : Int) ≤ n5) && decide (n5 < (List.length (PV.els (PV.fld p1 3)) : Int))) then
      c85 (List.getD (PV.els (PV.fld p1 3)) (n5).toNat PV.nil) (IntKind.wrap .i64 (n2 - (1 : Int))) fun n6 =>
      bif (decide (n4 < n6)) then
        next_w1_0 n6 (IntKind.wrap .i64 (n5 + (1 : Int)))
      else next_w1_0 n4 (IntKind.wrap .i64 (n5 + (1 : Int)))
    else none
  else ret0 (IntKind.wrap .i64 (n4 + (1 : Int)))

theorem f85_w1b0_mem (k : Nat) (c85 : PV → Int → (Int → R) → R) (retF : Int → R) (NX_w1 : St → R) (p1 : PV) (n2 : Int) (n4 : Int) (n5 : Int) : exec (f85_E k c85) f85_cw1 (purgeK (f85_E k c85) f85_cw1 (loopK NX_w1 (kont (f85_E k c85) f85_code [1, 1, 1, 0, 1, 0] (endK (f85_E k c85) Try.f85 [] f85_un retF)))) (f85_hw1_0 p1 n2 n4 n5) = f85_w1b0 c85 (fun y0 => retF y0) (fun n4 n5 => NX_w1 (f85_hw1_0 p1 n2 n4 n5)) p1 n2 n4 n5 := by kernel_rfl

noncomputable def f85_w1b0N (k : Nat) (c85 : PV → Int → (Int → R) → R) (ret0 : Int → R) (next_w1_0 : Int → Int → R) (p1 : PV) (n2 : Int) (n4 : Int) (n5 : Int) : R :=
  f85_w1b0 c85 ret0 next_w1_0 p1 n2 n4 n5
theorem f85_w1b0_eq (k : Nat) (c85 : PV → Int → (Int → R) → R) (retF : Int → R) (NX_w1 : St → R) (p1 : PV) (n2 : Int) (n4 : Int) (n5 : Int) : exec (f85_E k c85) f85_cw1 (purgeK (f85_E k c85) f85_cw1 (loopK NX_w1 (kont (f85_E k c85) f85_code [1, 1, 1, 0, 1, 0] (endK (f85_E k c85) Try.f85 [] f85_un retF)))) (f85_hw1_0 p1 n2 n4 n5) = f85_w1b0N k c85 (fun y0 => retF y0) (fun n4 n5 => NX_w1 (f85_hw1_0 p1 n2 n4 n5)) p1 n2 n4 n5 :=
  (f85_w1b0_mem k c85 retF NX_w1 p1 n2 n4 n5)

noncomputable def f85_w1B (k : Nat) (c85 : PV → Int → (Int → R) → R) (ret0 : Int → R) (p1 : PV) (n2 : Int) (nx : Int × Int → R) : Int × Int → R := (fun s => f85_w1b0N k c85 ret0 (fun n4 n5 => nx (n4, n5)) p1 n2 s.1 s.2)
noncomputable def f85_w1N (k : Nat) (c85 : PV → Int → (Int → R) → R) (ret0 : Int → R) (p1 : PV) (n2 : Int) (n4 : Int) (n5 : Int) : R := loopR (f85_w1B k c85 ret0 p1 n2) k (n4, n5)
theorem f85_w1_eq (k : Nat) (c85 : PV → Int → (Int → R) → R) (retF : Int → R) (p1 : PV) (n2 : Int) (n4 : Int) (n5 : Int) : f85_w1A k c85 retF p1 n2 n4 n5 = f85_w1N k c85 (fun y0 => retF y0) p1 n2 n4 n5 :=
  Eq.mp (by kernel_rfl) (loop_sim (E := (f85_E k c85)) (c := f85_cw1) (K := (kont (f85_E k c85) f85_code [1, 1, 1, 0, 1, 0] (endK (f85_E k c85) Try.f85 [] f85_un retF))) (S := Int × Int) (fun s => f85_hw1_0 p1 n2 s.1 s.2) (f85_w1B k c85 (fun y0 => retF y0) p1 n2) (fun NX s => by
    exact Eq.mp (by kernel_rfl) (f85_w1b0_eq k c85 retF NX p1 n2 s.1 s.2)) k (n4, n5))

noncomputable def f85_e (c85 : PV → Int → (Int → R) → R) (ret0 : Int → R) (w1 : Int → Int → R) (p1 : PV) (n2 : Int) : R :=
  bif (decide (n2 ≤ (0 : Int))) then
    ret0 1
  else w1 0 0

theorem f85_e_mem (k : Nat) (c85 : PV → Int → (Int → R) → R) (retF : Int → R) (p1 : PV) (n2 : Int) : exec (f85_E k c85) f85_code (endK (f85_E k c85) Try.f85 [] f85_un retF) ⟨[.val 53 p1, .int .i64 n2, .undef, .undef, .undef, .undef, .undef, .undef, .undef, .undef, .undef, .undef, .undef, .undef, .undef, .undef, .undef, .undef, .undef, .undef, .undef, .undef, .undef, .undef, .undef, .undef, .undef, .undef, .undef, .undef, .undef], []⟩ = f85_e c85 (fun y0 => retF y0) (fun n4 n5 => f85_w1A k c85 retF p1 n2 n4 n5) p1 n2 := by kernel_rfl

noncomputable def f85_N (k : Nat) (c85 : PV → Int → (Int → R) → R) (ret0 : Int → R) (p1 : PV) (n2 : Int) : R :=
  f85_e c85 ret0 (fun n4 n5 => f85_w1N k c85 ret0 p1 n2 n4 n5) p1 n2
theorem f85_eq (k : Nat) (c85 : PV → Int → (Int → R) → R) (retF : Int → R) (p1 : PV) (n2 : Int) : exec (f85_E k c85) f85_code (endK (f85_E k c85) Try.f85 [] f85_un retF) ⟨[.val 53 p1, .int .i64 n2, .undef, .undef, .undef, .undef, .undef, .undef, .undef, .undef, .undef, .undef, .undef, .undef, .undef, .undef, .undef, .undef, .undef, .undef, .undef, .undef, .undef, .undef, .undef, .undef, .undef, .undef, .undef, .undef, .undef], []⟩ = f85_N k c85 (fun y0 => retF y0) p1 n2 :=
  (f85_e_mem k c85 retF p1 n2).trans (by rw [show (fun n4 n5 => f85_w1A k c85 retF p1 n2 n4 n5) = (fun n4 n5 => f85_w1N k c85 (fun y0 => retF y0) p1 n2 n4 n5) from funext fun n4 => funext fun n5 => f85_w1_eq k c85 retF p1 n2 n4 n5]; rfl)

noncomputable def G85 : Nat → PV → Int → (Int → R) → R
  | 0, _, _, _ => none
  | k + 1, p1, n2, ret0 => f85_N k (G85 k) ret0 p1 n2
theorem S85 : ∀ k, Snd Try.prog 85 f85_I f85_O (fun x ret => G85 k x.1 x.2 (fun y0 => ret y0))
  | 0 => snd_none
  | k + 1 => snd_step (E := f85_E k (G85 k)) rfl laidOut noNums (orc_ok (S85 k).o f85_D_ok orc0_ok) (f := 85) (fn := Try.f85) (code := f85_code) Try.func85 (by kernel_rfl) (drawsOk_of laidOut (orc_ok (S85 k).o f85_D_ok orc0_ok) mixed (by kernel_rfl)) f85_un f85_un_ok [] (fun _ => rfl)
      (fun x ret => f85_eq k (G85 k) ret x.1 x.2)

/- catchpole/catchpoleref8.parts -/
noncomputable def f93_I : Int → List SV × Obs := fun x => ([.int .i64 x], [])
noncomputable def f93_D : List SV → Obs → Option (Int)
  | [.int .i64 n1], [] => some n1
  | _, _ => none
theorem f93_D_ok (args : List SV) (B : Obs) (x : Int) (h : f93_D args B = some x) : f93_I x = (args, B) := by
  unfold f93_D at h
  split at h
  · injection h with h; subst h; rfl
  · cases h
noncomputable def f93_O : Int → Out := (fun y => ([.int .i64 y], []))
noncomputable def f93_un : Out → Option (Int)
  | ([.int .i64 y0], []) => some y0
  | _ => none
theorem f93_un_ok (o : Out) (y : Int) (h : f93_un o = some y) : o = f93_O y := by
  unfold f93_un at h
  split at h
  · injection h with h; subst h; rfl
  · cases h
noncomputable def f93_msk : Nat → Option (List Nat) := fun key =>  none
noncomputable def f93_C : Oracle := orc0
noncomputable def f93_E (k : Nat) : Env := { P := Try.prog, nilOwn := fun d => false, fldOwn := fun d i => false, ownPar := ownPars, ownRet := false, mask := f93_msk, fuel := k, C := f93_C }
noncomputable def f93_code : Code := Try.f93.body.getD .skip
noncomputable def f93_e (ret0 : Int → R) (n1 : Int) : R :=
  bif (decide (n1 = (3 : Int))) then
    ret0 2
  else bif (decide (n1 = (4 : Int))) then
    ret0 2
  else bif (decide (n1 = (5 : Int))) then
    ret0 1
  else bif (decide (n1 = (6 : Int))) then
    ret0 1
  else bif (decide (n1 = (7 : Int))) then
    ret0 1
  else ret0 0

theorem f93_e_mem (k : Nat) (retF : Int → R) (n1 : Int) : exec (f93_E k) f93_code (endK (f93_E k) Try.f93 [] f93_un retF) ⟨[.int .i64 n1, .undef, .undef, .undef, .undef, .undef, .undef, .undef, .undef, .undef, .undef], []⟩ = f93_e (fun y0 => retF y0) n1 := by kernel_rfl

noncomputable def f93_N (k : Nat) (ret0 : Int → R) (n1 : Int) : R :=
  f93_e ret0 n1
theorem f93_eq (k : Nat) (retF : Int → R) (n1 : Int) : exec (f93_E k) f93_code (endK (f93_E k) Try.f93 [] f93_un retF) ⟨[.int .i64 n1, .undef, .undef, .undef, .undef, .undef, .undef, .undef, .undef, .undef, .undef], []⟩ = f93_N k (fun y0 => retF y0) n1 :=
  (f93_e_mem k retF n1)

noncomputable def G93 : Nat → Int → (Int → R) → R
  | 0, _, _ => none
  | k + 1, n1, ret0 => f93_N k  ret0 n1
theorem S93 : ∀ k, Snd Try.prog 93 f93_I f93_O (fun x ret => G93 k x (fun y0 => ret y0))
  | 0 => snd_none
  | k + 1 => snd_step (E := f93_E k ) rfl laidOut noNums orc0_ok (f := 93) (fn := Try.f93) (code := f93_code) Try.func93 (by kernel_rfl) (drawsOk_of laidOut orc0_ok mixed (by kernel_rfl)) f93_un f93_un_ok [] (fun _ => rfl)
      (fun x ret => f93_eq k  ret x)

/- catchpole/catchpoleref8.formed -/
noncomputable def f86_I : PV → List SV × Obs := fun x => ([.val 53 x], [])
noncomputable def f86_D : List SV → Obs → Option (PV)
  | [.val 53 p1], [] => some p1
  | _, _ => none
theorem f86_D_ok (args : List SV) (B : Obs) (x : PV) (h : f86_D args B = some x) : f86_I x = (args, B) := by
  unfold f86_D at h
  split at h
  · injection h with h; subst h; rfl
  · cases h
noncomputable def f86_O : Bool → Out := (fun y => ([.bool y], []))
noncomputable def f86_un : Out → Option (Bool)
  | ([.bool y0], []) => some y0
  | _ => none
theorem f86_un_ok (o : Out) (y : Bool) (h : f86_un o = some y) : o = f86_O y := by
  unfold f86_un at h
  split at h
  · injection h with h; subst h; rfl
  · cases h
noncomputable def f86_msk : Nat → Option (List Nat) := fun key => bif key == 12 then some [1, 3] else none
noncomputable def f86_C (c86 : PV → (Bool → R) → R) (c93 : Int → (Int → R) → R) : Oracle := orc 86 f86_D f86_O (fun x ret => c86 x (fun y0 => ret y0)) <| orc 93 f93_D f93_O (fun x ret => c93 x (fun y0 => ret y0)) <| orc0
noncomputable def f86_E (k : Nat) (c86 : PV → (Bool → R) → R) (c93 : Int → (Int → R) → R) : Env := { P := Try.prog, nilOwn := fun d => false, fldOwn := fun d i => false, ownPar := ownPars, ownRet := false, mask := f86_msk, fuel := k, C := f86_C c86 c93 }
noncomputable def f86_code : Code := Try.f86.body.getD .skip
noncomputable def f86_cw1 : Code := subC f86_code [1, 1, 0, 1, 0, 0]
noncomputable def f86_hw1_0 (p1 : PV) (n4 : Int) : St := ⟨[.dead, .ptr 1 [], .dead, .int .i64 n4, .dead, .dead, .dead, .dead, .dead, .dead, .dead, .dead, .dead, .dead, .dead, .dead, .dead, .dead, .dead, .dead, .dead, .dead, .dead, .dead, .dead, .dead, .dead, .dead, .dead, .dead, .dead, .dead, .dead, .dead, .dead, .dead, .dead, .dead, .dead, .dead, .dead, .dead, .dead, .dead, .dead, .dead, .dead, .dead, .dead, .dead, .dead, .dead, .dead, .dead, .dead, .dead, .dead, .dead, .dead, .dead, .dead, .dead, .dead, .dead, .dead, .dead, .dead, .dead, .dead, .dead, .dead], [(1, .box 53 (.val 53 p1))]⟩
noncomputable def f86_w1A (k : Nat) (c86 : PV → (Bool → R) → R) (c93 : Int → (Int → R) → R) (retF : Bool → R) (p1 : PV) (n4 : Int) : R := loopM (f86_E k c86 c93) f86_cw1 (kont (f86_E k c86 c93) f86_code [1, 1, 0, 1, 0] (endK (f86_E k c86 c93) Try.f86 [] f86_un retF)) k (f86_hw1_0 p1 n4)
noncomputable def f86_w1b0 (c86 : PV → (Bool → R) → R) (c93 : Int → (Int → R) → R) (ret0 : Bool → R) (next_w1_0 : Int → R) (p1 : PV) (n4 : Int) : R :=
  bif (decide (n4 < (List.length (PV.els (PV.fld p1 3)) : Int))) then
    bif (true && decide ((0 : Int) ≤ n4) && decide (n4 < (List.length (PV.els (PV.fld p1 3)) : Int))) then
      c86 (List.getD (PV.els (PV.fld p1 3)) (n4).toNat PV.nil) fun b5 =>
      bif (!b5) then
        ret0 false
      else next_w1_0 (IntKind.wrap .i64 (n4 + (1 : Int)))
    else none
  else ret0 true

theorem f86_w1b0_mem (k : Nat) (c86 : PV → (Bool → R) → R) (c93 : Int → (Int → R) → R) (retF : Bool → R) (NX_w1 : St → R) (p1 : PV) (n4 : Int) : exec (f86_E k c86 c93) f86_cw1 (purgeK (f86_E k c86 c93) f86_cw1 (loopK NX_w1 (kont (f86_E k c86 c93) f86_code [1, 1, 0, 1, 0] (endK (f86_E k c86 c93) Try.f86 [] f86_un retF)))) (f86_hw1_0 p1 n4) = f86_w1b0 c86 c93 (fun y0 => retF y0) (fun n4 => NX_w1 (f86_hw1_0 p1 n4)) p1 n4 := by kernel_rfl

noncomputable def f86_w1b0N (k : Nat) (c86 : PV → (Bool → R) → R) (c93 : Int → (Int → R) → R) (ret0 : Bool → R) (next_w1_0 : Int → R) (p1 : PV) (n4 : Int) : R :=
  f86_w1b0 c86 c93 ret0 next_w1_0 p1 n4
theorem f86_w1b0_eq (k : Nat) (c86 : PV → (Bool → R) → R) (c93 : Int → (Int → R) → R) (retF : Bool → R) (NX_w1 : St → R) (p1 : PV) (n4 : Int) : exec (f86_E k c86 c93) f86_cw1 (purgeK (f86_E k c86 c93) f86_cw1 (loopK NX_w1 (kont (f86_E k c86 c93) f86_code [1, 1, 0, 1, 0] (endK (f86_E k c86 c93) Try.f86 [] f86_un retF)))) (f86_hw1_0 p1 n4) = f86_w1b0N k c86 c93 (fun y0 => retF y0) (fun n4 => NX_w1 (f86_hw1_0 p1 n4)) p1 n4 :=
  (f86_w1b0_mem k c86 c93 retF NX_w1 p1 n4)

noncomputable def f86_w1B (k : Nat) (c86 : PV → (Bool → R) → R) (c93 : Int → (Int → R) → R) (ret0 : Bool → R) (p1 : PV) (nx : Int → R) : Int → R := (fun s => f86_w1b0N k c86 c93 ret0 (fun n4 => nx n4) p1 s)
noncomputable def f86_w1N (k : Nat) (c86 : PV → (Bool → R) → R) (c93 : Int → (Int → R) → R) (ret0 : Bool → R) (p1 : PV) (n4 : Int) : R := loopR (f86_w1B k c86 c93 ret0 p1) k n4
theorem f86_w1_eq (k : Nat) (c86 : PV → (Bool → R) → R) (c93 : Int → (Int → R) → R) (retF : Bool → R) (p1 : PV) (n4 : Int) : f86_w1A k c86 c93 retF p1 n4 = f86_w1N k c86 c93 (fun y0 => retF y0) p1 n4 :=
  Eq.mp (by kernel_rfl) (loop_sim (E := (f86_E k c86 c93)) (c := f86_cw1) (K := (kont (f86_E k c86 c93) f86_code [1, 1, 0, 1, 0] (endK (f86_E k c86 c93) Try.f86 [] f86_un retF))) (S := Int) (fun s => f86_hw1_0 p1 s) (f86_w1B k c86 c93 (fun y0 => retF y0) p1) (fun NX s => by
    exact Eq.mp (by kernel_rfl) (f86_w1b0_eq k c86 c93 retF NX p1 s)) k n4)

noncomputable def f86_cw2 : Code := subC f86_code [1, 1, 0, 1, 0, 0]
noncomputable def f86_hw2_0 (p1 : PV) (n7 : Int) : St := ⟨[.dead, .ptr 1 [], .dead, .int .i64 n7, .dead, .dead, .dead, .dead, .dead, .dead, .dead, .dead, .dead, .dead, .dead, .dead, .dead, .dead, .dead, .dead, .dead, .dead, .dead, .dead, .dead, .dead, .dead, .dead, .dead, .dead, .dead, .dead, .dead, .dead, .dead, .dead, .dead, .dead, .dead, .dead, .dead, .dead, .dead, .dead, .dead, .dead, .dead, .dead, .dead, .dead, .dead, .dead, .dead, .dead, .dead, .dead, .dead, .dead, .dead, .dead, .dead, .dead, .dead, .dead, .dead, .dead, .dead, .dead, .dead, .dead, .dead], [(1, .box 53 (.val 53 p1))]⟩
noncomputable def f86_w2A (k : Nat) (c86 : PV → (Bool → R) → R) (c93 : Int → (Int → R) → R) (retF : Bool → R) (p1 : PV) (n7 : Int) : R := loopM (f86_E k c86 c93) f86_cw2 (kont (f86_E k c86 c93) f86_code [1, 1, 0, 1, 0] (endK (f86_E k c86 c93) Try.f86 [] f86_un retF)) k (f86_hw2_0 p1 n7)
noncomputable def f86_w2b0 (c86 : PV → (Bool → R) → R) (c93 : Int → (Int → R) → R) (ret0 : Bool → R) (next_w2_0 : Int → R) (p1 : PV) (n7 : Int) : R :=
  bif (decide (n7 < (List.length (PV.els (PV.fld p1 3)) : Int))) then
    bif (true && decide ((0 : Int) ≤ n7) && decide (n7 < (List.length (PV.els (PV.fld p1 3)) : Int))) then
      c86 (List.getD (PV.els (PV.fld p1 3)) (n7).toNat PV.nil) fun b8 =>
      bif (!b8) then
        ret0 false
      else next_w2_0 (IntKind.wrap .i64 (n7 + (1 : Int)))
    else none
  else ret0 true

theorem f86_w2b0_mem (k : Nat) (c86 : PV → (Bool → R) → R) (c93 : Int → (Int → R) → R) (retF : Bool → R) (NX_w2 : St → R) (p1 : PV) (n7 : Int) : exec (f86_E k c86 c93) f86_cw2 (purgeK (f86_E k c86 c93) f86_cw2 (loopK NX_w2 (kont (f86_E k c86 c93) f86_code [1, 1, 0, 1, 0] (endK (f86_E k c86 c93) Try.f86 [] f86_un retF)))) (f86_hw2_0 p1 n7) = f86_w2b0 c86 c93 (fun y0 => retF y0) (fun n7 => NX_w2 (f86_hw2_0 p1 n7)) p1 n7 := by kernel_rfl

noncomputable def f86_w2b0N (k : Nat) (c86 : PV → (Bool → R) → R) (c93 : Int → (Int → R) → R) (ret0 : Bool → R) (next_w2_0 : Int → R) (p1 : PV) (n7 : Int) : R :=
  f86_w2b0 c86 c93 ret0 next_w2_0 p1 n7
theorem f86_w2b0_eq (k : Nat) (c86 : PV → (Bool → R) → R) (c93 : Int → (Int → R) → R) (retF : Bool → R) (NX_w2 : St → R) (p1 : PV) (n7 : Int) : exec (f86_E k c86 c93) f86_cw2 (purgeK (f86_E k c86 c93) f86_cw2 (loopK NX_w2 (kont (f86_E k c86 c93) f86_code [1, 1, 0, 1, 0] (endK (f86_E k c86 c93) Try.f86 [] f86_un retF)))) (f86_hw2_0 p1 n7) = f86_w2b0N k c86 c93 (fun y0 => retF y0) (fun n7 => NX_w2 (f86_hw2_0 p1 n7)) p1 n7 :=
  (f86_w2b0_mem k c86 c93 retF NX_w2 p1 n7)

noncomputable def f86_w2B (k : Nat) (c86 : PV → (Bool → R) → R) (c93 : Int → (Int → R) → R) (ret0 : Bool → R) (p1 : PV) (nx : Int → R) : Int → R := (fun s => f86_w2b0N k c86 c93 ret0 (fun n7 => nx n7) p1 s)
noncomputable def f86_w2N (k : Nat) (c86 : PV → (Bool → R) → R) (c93 : Int → (Int → R) → R) (ret0 : Bool → R) (p1 : PV) (n7 : Int) : R := loopR (f86_w2B k c86 c93 ret0 p1) k n7
theorem f86_w2_eq (k : Nat) (c86 : PV → (Bool → R) → R) (c93 : Int → (Int → R) → R) (retF : Bool → R) (p1 : PV) (n7 : Int) : f86_w2A k c86 c93 retF p1 n7 = f86_w2N k c86 c93 (fun y0 => retF y0) p1 n7 :=
  Eq.mp (by kernel_rfl) (loop_sim (E := (f86_E k c86 c93)) (c := f86_cw2) (K := (kont (f86_E k c86 c93) f86_code [1, 1, 0, 1, 0] (endK (f86_E k c86 c93) Try.f86 [] f86_un retF))) (S := Int) (fun s => f86_hw2_0 p1 s) (f86_w2B k c86 c93 (fun y0 => retF y0) p1) (fun NX s => by
    exact Eq.mp (by kernel_rfl) (f86_w2b0_eq k c86 c93 retF NX p1 s)) k n7)

noncomputable def f86_cw3 : Code := subC f86_code [1, 1, 0, 1, 0, 0]
noncomputable def f86_hw3_0 (p1 : PV) (n10 : Int) : St := ⟨[.dead, .ptr 1 [], .dead, .int .i64 n10, .dead, .dead, .dead, .dead, .dead, .dead, .dead, .dead, .dead, .dead, .dead, .dead, .dead, .dead, .dead, .dead, .dead, .dead, .dead, .dead, .dead, .dead, .dead, .dead, .dead, .dead, .dead, .dead, .dead, .dead, .dead, .dead, .dead, .dead, .dead, .dead, .dead, .dead, .dead, .dead, .dead, .dead, .dead, .dead, .dead, .dead, .dead, .dead, .dead, .dead, .dead, .dead, .dead, .dead, .dead, .dead, .dead, .dead, .dead, .dead, .dead, .dead, .dead, .dead, .dead, .dead, .dead], [(1, .box 53 (.val 53 p1))]⟩
noncomputable def f86_w3A (k : Nat) (c86 : PV → (Bool → R) → R) (c93 : Int → (Int → R) → R) (retF : Bool → R) (p1 : PV) (n10 : Int) : R := loopM (f86_E k c86 c93) f86_cw3 (kont (f86_E k c86 c93) f86_code [1, 1, 0, 1, 0] (endK (f86_E k c86 c93) Try.f86 [] f86_un retF)) k (f86_hw3_0 p1 n10)
noncomputable def f86_w3b0 (c86 : PV → (Bool → R) → R) (c93 : Int → (Int → R) → R) (ret0 : Bool → R) (next_w3_0 : Int → R) (p1 : PV) (n10 : Int) : R :=
  bif (decide (n10 < (List.length (PV.els (PV.fld p1 3)) : Int))) then
    bif (true && decide ((0 : Int) ≤ n10) && decide (n10 < (List.length (PV.els (PV.fld p1 3)) : Int))) then
      c86 (List.getD (PV.els (PV.fld p1 3)) (n10).toNat PV.nil) fun b11 =>
      bif (!b11) then
        ret0 false
      else next_w3_0 (IntKind.wrap .i64 (n10 + (1 : Int)))
    else none
  else ret0 true

theorem f86_w3b0_mem (k : Nat) (c86 : PV → (Bool → R) → R) (c93 : Int → (Int → R) → R) (retF : Bool → R) (NX_w3 : St → R) (p1 : PV) (n10 : Int) : exec (f86_E k c86 c93) f86_cw3 (purgeK (f86_E k c86 c93) f86_cw3 (loopK NX_w3 (kont (f86_E k c86 c93) f86_code [1, 1, 0, 1, 0] (endK (f86_E k c86 c93) Try.f86 [] f86_un retF)))) (f86_hw3_0 p1 n10) = f86_w3b0 c86 c93 (fun y0 => retF y0) (fun n10 => NX_w3 (f86_hw3_0 p1 n10)) p1 n10 := by kernel_rfl

noncomputable def f86_w3b0N (k : Nat) (c86 : PV → (Bool → R) → R) (c93 : Int → (Int → R) → R) (ret0 : Bool → R) (next_w3_0 : Int → R) (p1 : PV) (n10 : Int) : R :=
  f86_w3b0 c86 c93 ret0 next_w3_0 p1 n10
theorem f86_w3b0_eq (k : Nat) (c86 : PV → (Bool → R) → R) (c93 : Int → (Int → R) → R) (retF : Bool → R) (NX_w3 : St → R) (p1 : PV) (n10 : Int) : exec (f86_E k c86 c93) f86_cw3 (purgeK (f86_E k c86 c93) f86_cw3 (loopK NX_w3 (kont (f86_E k c86 c93) f86_code [1, 1, 0, 1, 0] (endK (f86_E k c86 c93) Try.f86 [] f86_un retF)))) (f86_hw3_0 p1 n10) = f86_w3b0N k c86 c93 (fun y0 => retF y0) (fun n10 => NX_w3 (f86_hw3_0 p1 n10)) p1 n10 :=
  (f86_w3b0_mem k c86 c93 retF NX_w3 p1 n10)

noncomputable def f86_w3B (k : Nat) (c86 : PV → (Bool → R) → R) (c93 : Int → (Int → R) → R) (ret0 : Bool → R) (p1 : PV) (nx : Int → R) : Int → R := (fun s => f86_w3b0N k c86 c93 ret0 (fun n10 => nx n10) p1 s)
noncomputable def f86_w3N (k : Nat) (c86 : PV → (Bool → R) → R) (c93 : Int → (Int → R) → R) (ret0 : Bool → R) (p1 : PV) (n10 : Int) : R := loopR (f86_w3B k c86 c93 ret0 p1) k n10
theorem f86_w3_eq (k : Nat) (c86 : PV → (Bool → R) → R) (c93 : Int → (Int → R) → R) (retF : Bool → R) (p1 : PV) (n10 : Int) : f86_w3A k c86 c93 retF p1 n10 = f86_w3N k c86 c93 (fun y0 => retF y0) p1 n10 :=
  Eq.mp (by kernel_rfl) (loop_sim (E := (f86_E k c86 c93)) (c := f86_cw3) (K := (kont (f86_E k c86 c93) f86_code [1, 1, 0, 1, 0] (endK (f86_E k c86 c93) Try.f86 [] f86_un retF))) (S := Int) (fun s => f86_hw3_0 p1 s) (f86_w3B k c86 c93 (fun y0 => retF y0) p1) (fun NX s => by
    exact Eq.mp (by kernel_rfl) (f86_w3b0_eq k c86 c93 retF NX p1 s)) k n10)

noncomputable def f86_cw4 : Code := subC f86_code [1, 1, 0, 1, 0, 0]
noncomputable def f86_hw4_0 (p1 : PV) (n13 : Int) : St := ⟨[.dead, .ptr 1 [], .dead, .int .i64 n13, .dead, .dead, .dead, .dead, .dead, .dead, .dead, .dead, .dead, .dead, .dead, .dead, .dead, .dead, .dead, .dead, .dead, .dead, .dead, .dead, .dead, .dead, .dead, .dead, .dead, .dead, .dead, .dead, .dead, .dead, .dead, .dead, .dead, .dead, .dead, .dead, .dead, .dead, .dead, .dead, .dead, .dead, .dead, .dead, .dead, .dead, .dead, .dead, .dead, .dead, .dead, .dead, .dead, .dead, .dead, .dead, .dead, .dead, .dead, .dead, .dead, .dead, .dead, .dead, .dead, .dead, .dead], [(1, .box 53 (.val 53 p1))]⟩
noncomputable def f86_w4A (k : Nat) (c86 : PV → (Bool → R) → R) (c93 : Int → (Int → R) → R) (retF : Bool → R) (p1 : PV) (n13 : Int) : R := loopM (f86_E k c86 c93) f86_cw4 (kont (f86_E k c86 c93) f86_code [1, 1, 0, 1, 0] (endK (f86_E k c86 c93) Try.f86 [] f86_un retF)) k (f86_hw4_0 p1 n13)
noncomputable def f86_w4b0 (c86 : PV → (Bool → R) → R) (c93 : Int → (Int → R) → R) (ret0 : Bool → R) (next_w4_0 : Int → R) (p1 : PV) (n13 : Int) : R :=
  bif (decide (n13 < (List.length (PV.els (PV.fld p1 3)) : Int))) then
    bif (true && decide ((0 : Int) ≤ n13) && decide (n13 < (List.length (PV.els (PV.fld p1 3)) : Int))) then
      c86 (List.getD (PV.els (PV.fld p1 3)) (n13).toNat PV.nil) fun b14 =>
      bif (!b14) then
        ret0 false
      else next_w4_0 (IntKind.wrap .i64 (n13 + (1 : Int)))
    else none
  else ret0 true

theorem f86_w4b0_mem (k : Nat) (c86 : PV → (Bool → R) → R) (c93 : Int → (Int → R) → R) (retF : Bool → R) (NX_w4 : St → R) (p1 : PV) (n13 : Int) : exec (f86_E k c86 c93) f86_cw4 (purgeK (f86_E k c86 c93) f86_cw4 (loopK NX_w4 (kont (f86_E k c86 c93) f86_code [1, 1, 0, 1, 0] (endK (f86_E k c86 c93) Try.f86 [] f86_un retF)))) (f86_hw4_0 p1 n13) = f86_w4b0 c86 c93 (fun y0 => retF y0) (fun n13 => NX_w4 (f86_hw4_0 p1 n13)) p1 n13 := by kernel_rfl

noncomputable def f86_w4b0N (k : Nat) (c86 : PV → (Bool → R) → R) (c93 : Int → (Int → R) → R) (ret0 : Bool → R) (next_w4_0 : Int → R) (p1 : PV) (n13 : Int) : R :=
  f86_w4b0 c86 c93 ret0 next_w4_0 p1 n13
theorem f86_w4b0_eq (k : Nat) (c86 : PV → (Bool → R) → R) (c93 : Int → (Int → R) → R) (retF : Bool → R) (NX_w4 : St → R) (p1 : PV) (n13 : Int) : exec (f86_E k c86 c93) f86_cw4 (purgeK (f86_E k c86 c93) f86_cw4 (loopK NX_w4 (kont (f86_E k c86 c93) f86_code [1, 1, 0, 1, 0] (endK (f86_E k c86 c93) Try.f86 [] f86_un retF)))) (f86_hw4_0 p1 n13) = f86_w4b0N k c86 c93 (fun y0 => retF y0) (fun n13 => NX_w4 (f86_hw4_0 p1 n13)) p1 n13 :=
  (f86_w4b0_mem k c86 c93 retF NX_w4 p1 n13)

noncomputable def f86_w4B (k : Nat) (c86 : PV → (Bool → R) → R) (c93 : Int → (Int → R) → R) (ret0 : Bool → R) (p1 : PV) (nx : Int → R) : Int → R := (fun s => f86_w4b0N k c86 c93 ret0 (fun n13 => nx n13) p1 s)
noncomputable def f86_w4N (k : Nat) (c86 : PV → (Bool → R) → R) (c93 : Int → (Int → R) → R) (ret0 : Bool → R) (p1 : PV) (n13 : Int) : R := loopR (f86_w4B k c86 c93 ret0 p1) k n13
theorem f86_w4_eq (k : Nat) (c86 : PV → (Bool → R) → R) (c93 : Int → (Int → R) → R) (retF : Bool → R) (p1 : PV) (n13 : Int) : f86_w4A k c86 c93 retF p1 n13 = f86_w4N k c86 c93 (fun y0 => retF y0) p1 n13 :=
  Eq.mp (by kernel_rfl) (loop_sim (E := (f86_E k c86 c93)) (c := f86_cw4) (K := (kont (f86_E k c86 c93) f86_code [1, 1, 0, 1, 0] (endK (f86_E k c86 c93) Try.f86 [] f86_un retF))) (S := Int) (fun s => f86_hw4_0 p1 s) (f86_w4B k c86 c93 (fun y0 => retF y0) p1) (fun NX s => by
    exact Eq.mp (by kernel_rfl) (f86_w4b0_eq k c86 c93 retF NX p1 s)) k n13)

noncomputable def f86_cw5 : Code := subC f86_code [1, 1, 0, 1, 0, 0]
noncomputable def f86_hw5_0 (p1 : PV) (n16 : Int) : St := ⟨[.dead, .ptr 1 [], .dead, .int .i64 n16, .dead, .dead, .dead, .dead, .dead, .dead, .dead, .dead, .dead, .dead, .dead, .dead, .dead, .dead, .dead, .dead, .dead, .dead, .dead, .dead, .dead, .dead, .dead, .dead, .dead, .dead, .dead, .dead, .dead, .dead, .dead, .dead, .dead, .dead, .dead, .dead, .dead, .dead, .dead, .dead, .dead, .dead, .dead, .dead, .dead, .dead, .dead, .dead, .dead, .dead, .dead, .dead, .dead, .dead, .dead, .dead, .dead, .dead, .dead, .dead, .dead, .dead, .dead, .dead, .dead, .dead, .dead], [(1, .box 53 (.val 53 p1))]⟩
noncomputable def f86_w5A (k : Nat) (c86 : PV → (Bool → R) → R) (c93 : Int → (Int → R) → R) (retF : Bool → R) (p1 : PV) (n16 : Int) : R := loopM (f86_E k c86 c93) f86_cw5 (kont (f86_E k c86 c93) f86_code [1, 1, 0, 1, 0] (endK (f86_E k c86 c93) Try.f86 [] f86_un retF)) k (f86_hw5_0 p1 n16)
noncomputable def f86_w5b0 (c86 : PV → (Bool → R) → R) (c93 : Int → (Int → R) → R) (ret0 : Bool → R) (next_w5_0 : Int → R) (p1 : PV) (n16 : Int) : R :=
  bif (decide (n16 < (List.length (PV.els (PV.fld p1 3)) : Int))) then
    bif (true && decide ((0 : Int) ≤ n16) && decide (n16 < (List.length (PV.els (PV.fld p1 3)) : Int))) then
      c86 (List.getD (PV.els (PV.fld p1 3)) (n16).toNat PV.nil) fun b17 =>
      bif (!b17) then
        ret0 false
      else next_w5_0 (IntKind.wrap .i64 (n16 + (1 : Int)))
    else none
  else ret0 true

theorem f86_w5b0_mem (k : Nat) (c86 : PV → (Bool → R) → R) (c93 : Int → (Int → R) → R) (retF : Bool → R) (NX_w5 : St → R) (p1 : PV) (n16 : Int) : exec (f86_E k c86 c93) f86_cw5 (purgeK (f86_E k c86 c93) f86_cw5 (loopK NX_w5 (kont (f86_E k c86 c93) f86_code [1, 1, 0, 1, 0] (endK (f86_E k c86 c93) Try.f86 [] f86_un retF)))) (f86_hw5_0 p1 n16) = f86_w5b0 c86 c93 (fun y0 => retF y0) (fun n16 => NX_w5 (f86_hw5_0 p1 n16)) p1 n16 := by kernel_rfl

noncomputable def f86_w5b0N (k : Nat) (c86 : PV → (Bool → R) → R) (c93 : Int → (Int → R) → R) (ret0 : Bool → R) (next_w5_0 : Int → R) (p1 : PV) (n16 : Int) : R :=
  f86_w5b0 c86 c93 ret0 next_w5_0 p1 n16
theorem f86_w5b0_eq (k : Nat) (c86 : PV → (Bool → R) → R) (c93 : Int → (Int → R) → R) (retF : Bool → R) (NX_w5 : St → R) (p1 : PV) (n16 : Int) : exec (f86_E k c86 c93) f86_cw5 (purgeK (f86_E k c86 c93) f86_cw5 (loopK NX_w5 (kont (f86_E k c86 c93) f86_code [1, 1, 0, 1, 0] (endK (f86_E k c86 c93) Try.f86 [] f86_un retF)))) (f86_hw5_0 p1 n16) = f86_w5b0N k c86 c93 (fun y0 => retF y0) (fun n16 => NX_w5 (f86_hw5_0 p1 n16)) p1 n16 :=
  (f86_w5b0_mem k c86 c93 retF NX_w5 p1 n16)

noncomputable def f86_w5B (k : Nat) (c86 : PV → (Bool → R) → R) (c93 : Int → (Int → R) → R) (ret0 : Bool → R) (p1 : PV) (nx : Int → R) : Int → R := (fun s => f86_w5b0N k c86 c93 ret0 (fun n16 => nx n16) p1 s)
noncomputable def f86_w5N (k : Nat) (c86 : PV → (Bool → R) → R) (c93 : Int → (Int → R) → R) (ret0 : Bool → R) (p1 : PV) (n16 : Int) : R := loopR (f86_w5B k c86 c93 ret0 p1) k n16
theorem f86_w5_eq (k : Nat) (c86 : PV → (Bool → R) → R) (c93 : Int → (Int → R) → R) (retF : Bool → R) (p1 : PV) (n16 : Int) : f86_w5A k c86 c93 retF p1 n16 = f86_w5N k c86 c93 (fun y0 => retF y0) p1 n16 :=
  Eq.mp (by kernel_rfl) (loop_sim (E := (f86_E k c86 c93)) (c := f86_cw5) (K := (kont (f86_E k c86 c93) f86_code [1, 1, 0, 1, 0] (endK (f86_E k c86 c93) Try.f86 [] f86_un retF))) (S := Int) (fun s => f86_hw5_0 p1 s) (f86_w5B k c86 c93 (fun y0 => retF y0) p1) (fun NX s => by
    exact Eq.mp (by kernel_rfl) (f86_w5b0_eq k c86 c93 retF NX p1 s)) k n16)

noncomputable def f86_cw6 : Code := subC f86_code [1, 1, 0, 1, 0, 0]
noncomputable def f86_hw6_0 (p1 : PV) (n19 : Int) : St := ⟨[.dead, .ptr 1 [], .dead, .int .i64 n19, .dead, .dead, .dead, .dead, .dead, .dead, .dead, .dead, .dead, .dead, .dead, .dead, .dead, .dead, .dead, .dead, .dead, .dead, .dead, .dead, .dead, .dead, .dead, .dead, .dead, .dead, .dead, .dead, .dead, .dead, .dead, .dead, .dead, .dead, .dead, .dead, .dead, .dead, .dead, .dead, .dead, .dead, .dead, .dead, .dead, .dead, .dead, .dead, .dead, .dead, .dead, .dead, .dead, .dead, .dead, .dead, .dead, .dead, .dead, .dead, .dead, .dead, .dead, .dead, .dead, .dead, .dead], [(1, .box 53 (.val 53 p1))]⟩
noncomputable def f86_w6A (k : Nat) (c86 : PV → (Bool → R) → R) (c93 : Int → (Int → R) → R) (retF : Bool → R) (p1 : PV) (n19 : Int) : R := loopM (f86_E k c86 c93) f86_cw6 (kont (f86_E k c86 c93) f86_code [1, 1, 0, 1, 0] (endK (f86_E k c86 c93) Try.f86 [] f86_un retF)) k (f86_hw6_0 p1 n19)
noncomputable def f86_w6b0 (c86 : PV → (Bool → R) → R) (c93 : Int → (Int → R) → R) (ret0 : Bool → R) (next_w6_0 : Int → R) (p1 : PV) (n19 : Int) : R :=
  bif (decide (n19 < (List.length (PV.els (PV.fld p1 3)) : Int))) then
    bif (true && decide ((0 : Int) ≤ n19) && decide (n19 < (List.length (PV.els (PV.fld p1 3)) : Int))) then
      c86 (List.getD (PV.els (PV.fld p1 3)) (n19).toNat PV.nil) fun b20 =>
      bif (!b20) then
        ret0 false
      else next_w6_0 (IntKind.wrap .i64 (n19 + (1 : Int)))
    else none
  else ret0 true

theorem f86_w6b0_mem (k : Nat) (c86 : PV → (Bool → R) → R) (c93 : Int → (Int → R) → R) (retF : Bool → R) (NX_w6 : St → R) (p1 : PV) (n19 : Int) : exec (f86_E k c86 c93) f86_cw6 (purgeK (f86_E k c86 c93) f86_cw6 (loopK NX_w6 (kont (f86_E k c86 c93) f86_code [1, 1, 0, 1, 0] (endK (f86_E k c86 c93) Try.f86 [] f86_un retF)))) (f86_hw6_0 p1 n19) = f86_w6b0 c86 c93 (fun y0 => retF y0) (fun n19 => NX_w6 (f86_hw6_0 p1 n19)) p1 n19 := by kernel_rfl

noncomputable def f86_w6b0N (k : Nat) (c86 : PV → (Bool → R) → R) (c93 : Int → (Int → R) → R) (ret0 : Bool → R) (next_w6_0 : Int → R) (p1 : PV) (n19 : Int) : R :=
  f86_w6b0 c86 c93 ret0 next_w6_0 p1 n19
theorem f86_w6b0_eq (k : Nat) (c86 : PV → (Bool → R) → R) (c93 : Int → (Int → R) → R) (retF : Bool → R) (NX_w6 : St → R) (p1 : PV) (n19 : Int) : exec (f86_E k c86 c93) f86_cw6 (purgeK (f86_E k c86 c93) f86_cw6 (loopK NX_w6 (kont (f86_E k c86 c93) f86_code [1, 1, 0, 1, 0] (endK (f86_E k c86 c93) Try.f86 [] f86_un retF)))) (f86_hw6_0 p1 n19) = f86_w6b0N k c86 c93 (fun y0 => retF y0) (fun n19 => NX_w6 (f86_hw6_0 p1 n19)) p1 n19 :=
  (f86_w6b0_mem k c86 c93 retF NX_w6 p1 n19)

noncomputable def f86_w6B (k : Nat) (c86 : PV → (Bool → R) → R) (c93 : Int → (Int → R) → R) (ret0 : Bool → R) (p1 : PV) (nx : Int → R) : Int → R := (fun s => f86_w6b0N k c86 c93 ret0 (fun n19 => nx n19) p1 s)
noncomputable def f86_w6N (k : Nat) (c86 : PV → (Bool → R) → R) (c93 : Int → (Int → R) → R) (ret0 : Bool → R) (p1 : PV) (n19 : Int) : R := loopR (f86_w6B k c86 c93 ret0 p1) k n19
theorem f86_w6_eq (k : Nat) (c86 : PV → (Bool → R) → R) (c93 : Int → (Int → R) → R) (retF : Bool → R) (p1 : PV) (n19 : Int) : f86_w6A k c86 c93 retF p1 n19 = f86_w6N k c86 c93 (fun y0 => retF y0) p1 n19 :=
  Eq.mp (by kernel_rfl) (loop_sim (E := (f86_E k c86 c93)) (c := f86_cw6) (K := (kont (f86_E k c86 c93) f86_code [1, 1, 0, 1, 0] (endK (f86_E k c86 c93) Try.f86 [] f86_un retF))) (S := Int) (fun s => f86_hw6_0 p1 s) (f86_w6B k c86 c93 (fun y0 => retF y0) p1) (fun NX s => by
    exact Eq.mp (by kernel_rfl) (f86_w6b0_eq k c86 c93 retF NX p1 s)) k n19)

noncomputable def f86_cw7 : Code := subC f86_code [1, 1, 0, 1, 0, 0]
noncomputable def f86_hw7_0 (p1 : PV) (n22 : Int) : St := ⟨[.dead, .ptr 1 [], .dead, .int .i64 n22, .dead, .dead, .dead, .dead, .dead, .dead, .dead, .dead, .dead, .dead, .dead, .dead, .dead, .dead, .dead, .dead, .dead, .dead, .dead, .dead, .dead, .dead, .dead, .dead, .dead, .dead, .dead, .dead, .dead, .dead, .dead, .dead, .dead, .dead, .dead, .dead, .dead, .dead, .dead, .dead, .dead, .dead, .dead, .dead, .dead, .dead, .dead, .dead, .dead, .dead, .dead, .dead, .dead, .dead, .dead, .dead, .dead, .dead, .dead, .dead, .dead, .dead, .dead, .dead, .dead, .dead, .dead], [(1, .box 53 (.val 53 p1))]⟩
noncomputable def f86_w7A (k : Nat) (c86 : PV → (Bool → R) → R) (c93 : Int → (Int → R) → R) (retF : Bool → R) (p1 : PV) (n22 : Int) : R := loopM (f86_E k c86 c93) f86_cw7 (kont (f86_E k c86 c93) f86_code [1, 1, 0, 1, 0] (endK (f86_E k c86 c93) Try.f86 [] f86_un retF)) k (f86_hw7_0 p1 n22)
noncomputable def f86_w7b0 (c86 : PV → (Bool → R) → R) (c93 : Int → (Int → R) → R) (ret0 : Bool → R) (next_w7_0 : Int → R) (p1 : PV) (n22 : Int) : R :=
  bif (decide (n22 < (List.length (PV.els (PV.fld p1 3)) : Int))) then
    bif (true && decide ((0 : Int) ≤ n22) && decide (n22 < (List.length (PV.els (PV.fld p1 3)) : Int))) then
      c86 (List.getD (PV.els (PV.fld p1 3)) (n22).toNat PV.nil) fun b23 =>
      bif (!b23) then
        ret0 false
      else next_w7_0 (IntKind.wrap .i64 (n22 + (1 : Int)))
    else none
  else ret0 true

theorem f86_w7b0_mem (k : Nat) (c86 : PV → (Bool → R) → R) (c93 : Int → (Int → R) → R) (retF : Bool → R) (NX_w7 : St → R) (p1 : PV) (n22 : Int) : exec (f86_E k c86 c93) f86_cw7 (purgeK (f86_E k c86 c93) f86_cw7 (loopK NX_w7 (kont (f86_E k c86 c93) f86_code [1, 1, 0, 1, 0] (endK (f86_E k c86 c93) Try.f86 [] f86_un retF)))) (f86_hw7_0 p1 n22) = f86_w7b0 c86 c93 (fun y0 => retF y0) (fun n22 => NX_w7 (f86_hw7_0 p1 n22)) p1 n22 := by kernel_rfl

noncomputable def f86_w7b0N (k : Nat) (c86 : PV → (Bool → R) → R) (c93 : Int → (Int → R) → R) (ret0 : Bool → R) (next_w7_0 : Int → R) (p1 : PV) (n22 : Int) : R :=
  f86_w7b0 c86 c93 ret0 next_w7_0 p1 n22
theorem f86_w7b0_eq (k : Nat) (c86 : PV → (Bool → R) → R) (c93 : Int → (Int → R) → R) (retF : Bool → R) (NX_w7 : St → R) (p1 : PV) (n22 : Int) : exec (f86_E k c86 c93) f86_cw7 (purgeK (f86_E k c86 c93) f86_cw7 (loopK NX_w7 (kont (f86_E k c86 c93) f86_code [1, 1, 0, 1, 0] (endK (f86_E k c86 c93) Try.f86 [] f86_un retF)))) (f86_hw7_0 p1 n22) = f86_w7b0N k c86 c93 (fun y0 => retF y0) (fun n22 => NX_w7 (f86_hw7_0 p1 n22)) p1 n22 :=
  (f86_w7b0_mem k c86 c93 retF NX_w7 p1 n22)

noncomputable def f86_w7B (k : Nat) (c86 : PV → (Bool → R) → R) (c93 : Int → (Int → R) → R) (ret0 : Bool → R) (p1 : PV) (nx : Int → R) : Int → R := (fun s => f86_w7b0N k c86 c93 ret0 (fun n22 => nx n22) p1 s)
noncomputable def f86_w7N (k : Nat) (c86 : PV → (Bool → R) → R) (c93 : Int → (Int → R) → R) (ret0 : Bool → R) (p1 : PV) (n22 : Int) : R := loopR (f86_w7B k c86 c93 ret0 p1) k n22
theorem f86_w7_eq (k : Nat) (c86 : PV → (Bool → R) → R) (c93 : Int → (Int → R) → R) (retF : Bool → R) (p1 : PV) (n22 : Int) : f86_w7A k c86 c93 retF p1 n22 = f86_w7N k c86 c93 (fun y0 => retF y0) p1 n22 :=
  Eq.mp (by kernel_rfl) (loop_sim (E := (f86_E k c86 c93)) (c := f86_cw7) (K := (kont (f86_E k c86 c93) f86_code [1, 1, 0, 1, 0] (endK (f86_E k c86 c93) Try.f86 [] f86_un retF))) (S := Int) (fun s => f86_hw7_0 p1 s) (f86_w7B k c86 c93 (fun y0 => retF y0) p1) (fun NX s => by
    exact Eq.mp (by kernel_rfl) (f86_w7b0_eq k c86 c93 retF NX p1 s)) k n22)

noncomputable def f86_cw8 : Code := subC f86_code [1, 1, 0, 1, 0, 0]
noncomputable def f86_hw8_0 (p1 : PV) (n25 : Int) : St := ⟨[.dead, .ptr 1 [], .dead, .int .i64 n25, .dead, .dead, .dead, .dead, .dead, .dead, .dead, .dead, .dead, .dead, .dead, .dead, .dead, .dead, .dead, .dead, .dead, .dead, .dead, .dead, .dead, .dead, .dead, .dead, .dead, .dead, .dead, .dead, .dead, .dead, .dead, .dead, .dead, .dead, .dead, .dead, .dead, .dead, .dead, .dead, .dead, .dead, .dead, .dead, .dead, .dead, .dead, .dead, .dead, .dead, .dead, .dead, .dead, .dead, .dead, .dead, .dead, .dead, .dead, .dead, .dead, .dead, .dead, .dead, .dead, .dead, .dead], [(1, .box 53 (.val 53 p1))]⟩
noncomputable def f86_w8A (k : Nat) (c86 : PV → (Bool → R) → R) (c93 : Int → (Int → R) → R) (retF : Bool → R) (p1 : PV) (n25 : Int) : R := loopM (f86_E k c86 c93) f86_cw8 (kont (f86_E k c86 c93) f86_code [1, 1, 0, 1, 0] (endK (f86_E k c86 c93) Try.f86 [] f86_un retF)) k (f86_hw8_0 p1 n25)
noncomputable def f86_w8b0 (c86 : PV → (Bool → R) → R) (c93 : Int → (Int → R) → R) (ret0 : Bool → R) (next_w8_0 : Int → R) (p1 : PV) (n25 : Int) : R :=
  bif (decide (n25 < (List.length (PV.els (PV.fld p1 3)) : Int))) then
    bif (true && decide ((0 : Int) ≤ n25) && decide (n25 < (List.length (PV.els (PV.fld p1 3)) : Int))) then
      c86 (List.getD (PV.els (PV.fld p1 3)) (n25).toNat PV.nil) fun b26 =>
      bif (!b26) then
        ret0 false
      else next_w8_0 (IntKind.wrap .i64 (n25 + (1 : Int)))
    else none
  else ret0 true

theorem f86_w8b0_mem (k : Nat) (c86 : PV → (Bool → R) → R) (c93 : Int → (Int → R) → R) (retF : Bool → R) (NX_w8 : St → R) (p1 : PV) (n25 : Int) : exec (f86_E k c86 c93) f86_cw8 (purgeK (f86_E k c86 c93) f86_cw8 (loopK NX_w8 (kont (f86_E k c86 c93) f86_code [1, 1, 0, 1, 0] (endK (f86_E k c86 c93) Try.f86 [] f86_un retF)))) (f86_hw8_0 p1 n25) = f86_w8b0 c86 c93 (fun y0 => retF y0) (fun n25 => NX_w8 (f86_hw8_0 p1 n25)) p1 n25 := by kernel_rfl

noncomputable def f86_w8b0N (k : Nat) (c86 : PV → (Bool → R) → R) (c93 : Int → (Int → R) → R) (ret0 : Bool → R) (next_w8_0 : Int → R) (p1 : PV) (n25 : Int) : R :=
  f86_w8b0 c86 c93 ret0 next_w8_0 p1 n25
theorem f86_w8b0_eq (k : Nat) (c86 : PV → (Bool → R) → R) (c93 : Int → (Int → R) → R) (retF : Bool → R) (NX_w8 : St → R) (p1 : PV) (n25 : Int) : exec (f86_E k c86 c93) f86_cw8 (purgeK (f86_E k c86 c93) f86_cw8 (loopK NX_w8 (kont (f86_E k c86 c93) f86_code [1, 1, 0, 1, 0] (endK (f86_E k c86 c93) Try.f86 [] f86_un retF)))) (f86_hw8_0 p1 n25) = f86_w8b0N k c86 c93 (fun y0 => retF y0) (fun n25 => NX_w8 (f86_hw8_0 p1 n25)) p1 n25 :=
  (f86_w8b0_mem k c86 c93 retF NX_w8 p1 n25)

noncomputable def f86_w8B (k : Nat) (c86 : PV → (Bool → R) → R) (c93 : Int → (Int → R) → R) (ret0 : Bool → R) (p1 : PV) (nx : Int → R) : Int → R := (fun s => f86_w8b0N k c86 c93 ret0 (fun n25 => nx n25) p1 s)
noncomputable def f86_w8N (k : Nat) (c86 : PV → (Bool → R) → R) (c93 : Int → (Int → R) → R) (ret0 : Bool → R) (p1 : PV) (n25 : Int) : R := loopR (f86_w8B k c86 c93 ret0 p1) k n25
theorem f86_w8_eq (k : Nat) (c86 : PV → (Bool → R) → R) (c93 : Int → (Int → R) → R) (retF : Bool → R) (p1 : PV) (n25 : Int) : f86_w8A k c86 c93 retF p1 n25 = f86_w8N k c86 c93 (fun y0 => retF y0) p1 n25 :=
  Eq.mp (by kernel_rfl) (loop_sim (E := (f86_E k c86 c93)) (c := f86_cw8) (K := (kont (f86_E k c86 c93) f86_code [1, 1, 0, 1, 0] (endK (f86_E k c86 c93) Try.f86 [] f86_un retF))) (S := Int) (fun s => f86_hw8_0 p1 s) (f86_w8B k c86 c93 (fun y0 => retF y0) p1) (fun NX s => by
    exact Eq.mp (by kernel_rfl) (f86_w8b0_eq k c86 c93 retF NX p1 s)) k n25)

noncomputable def f86_e (c86 : PV → (Bool → R) → R) (c93 : Int → (Int → R) → R) (ret0 : Bool → R) (w1 : Int → R) (w2 : Int → R) (w3 : Int → R) (w4 : Int → R) (w5 : Int → R) (w6 : Int → R) (w7 : Int → R) (w8 : Int → R) (p1 : PV) : R :=
  bif ((decide ((PV.num (PV.fld p1 0)) < (0 : Int))) == false) then
    bif ((decide ((7 : Int) < (PV.num (PV.fld p1 0)))) == false) then
      c93 (PV.num (PV.fld p1 0)) fun n2 =>
      bif ((!(decide ((List.length (PV.els (PV.fld p1 3)) : Int) = n2))) == false) then
        bif ((!(decide ((PV.num (PV.fld p1 0)) = (2 : Int)))) == true) then
          bif ((!(PV.beq (PV.fld p1 1) (PV.agg (List.replicate 256 (PV.bool false))))) == false) then
            bif ((!(decide ((PV.num (PV.fld p1 0)) = (6 : Int)))) == true) then
              bif ((!(decide ((PV.num (PV.fld p1 2)) = (0 : Int)))) == false) then
                bif ((decide ((PV.num (PV.fld p1 0)) = (6 : Int))) == true) then
                  bif ((decide ((PV.num (PV.fld p1 2)) < (1 : Int))) == false) then
                    bif (decide ((32 : Int) < (PV.num (PV.fld p1 2)))) then
                      ret0 false
                    else w1 0
                  else ret0 false
                else w2 0
              else ret0 false
            else bif ((decide ((PV.num (PV.fld p1 0)) = (6 : Int))) == true) then
              bif ((decide ((PV.num (PV.fld p1 2)) < (1 : Int))) == false) then
                bif (decide ((32 : Int) < (PV.num (PV.fld p1 2)))) then
                  ret0 false
                else w3 0
              else ret0 false
            else w4 0
          else ret0 false
        else bif ((!(decide ((PV.num (PV.fld p1 0)) = (6 : Int)))) == true) then
          bif ((!(decide ((PV.num (PV.fld p1 2)) = (0 : Int)))) == false) then
            bif ((decide ((PV.num (PV.fld p1 0)) = (6 : Int))) == true) then
              bif ((decide ((PV.num (PV.fld p1 2)) < (1 : Int))) == false) then
                bif (decide ((32 : Int) < (PV.num (PV.fld p1 2)))) then
                  ret0 false
                else w5 0
              else ret0 false
            else w6 0
          else ret0 false
        else bif ((decide ((PV.num (PV.fld p1 0)) = (6 : Int))) == true) then
          bif ((decide ((PV.num (PV.fld p1 2)) < (1 : Int))) == false) then
            bif (decide ((32 : Int) < (PV.num (PV.fld p1 2)))) then
              ret0 false
            else w7 0
          else ret0 false
        else w8 0
      else ret0 false
    else ret0 false
  else ret0 false

theorem f86_e_mem (k : Nat) (c86 : PV → (Bool → R) → R) (c93 : Int → (Int → R) → R) (retF : Bool → R) (p1 : PV) : exec (f86_E k c86 c93) f86_code (endK (f86_E k c86 c93) Try.f86 [] f86_un retF) ⟨[.val 53 p1, .undef, .undef, .undef, .undef, .undef, .undef, .undef, .undef, .undef, .undef, .undef, .undef, .undef, .undef, .undef, .undef, .undef, .undef, .undef, .undef, .undef, .undef, .undef, .undef, .undef, .undef, .undef, .undef, .undef, .undef, .undef, .undef, .undef, .undef, .undef, .undef, .undef, .undef, .undef, .undef, .undef, .undef, .undef, .undef, .undef, .undef, .undef, .undef, .undef, .undef, .undef, .undef, .undef, .undef, .undef, .undef, .undef, .undef, .undef, .undef, .undef, .undef, .undef, .undef, .undef, .undef, .undef, .undef, .undef, .undef], []⟩ = f86_e c86 c93 (fun y0 => retF y0) (fun n4 => f86_w1A k c86 c93 retF p1 n4) (fun n7 => f86_w2A k c86 c93 retF p1 n7) (fun n10 => f86_w3A k c86 c93 retF p1 n10) (fun n13 => f86_w4A k c86 c93 retF p1 n13) (fun n16 => f86_w5A k c86 c93 retF p1 n16) (fun n19 => f86_w6A k c86 c93 retF p1 n19) (fun n22 => f86_w7A k c86 c93 retF p1 n22) (fun n25 => f86_w8A k c86 c93 retF p1 n25) p1 := by kernel_rfl

noncomputable def f86_N (k : Nat) (c86 : PV → (Bool → R) → R) (c93 : Int → (Int → R) → R) (ret0 : Bool → R) (p1 : PV) : R :=
  f86_e c86 c93 ret0 (fun n4 => f86_w1N k c86 c93 ret0 p1 n4) (fun n7 => f86_w2N k c86 c93 ret0 p1 n7) (fun n10 => f86_w3N k c86 c93 ret0 p1 n10) (fun n13 => f86_w4N k c86 c93 ret0 p1 n13) (fun n16 => f86_w5N k c86 c93 ret0 p1 n16) (fun n19 => f86_w6N k c86 c93 ret0 p1 n19) (fun n22 => f86_w7N k c86 c93 ret0 p1 n22) (fun n25 => f86_w8N k c86 c93 ret0 p1 n25) p1
theorem f86_eq (k : Nat) (c86 : PV → (Bool → R) → R) (c93 : Int → (Int → R) → R) (retF : Bool → R) (p1 : PV) : exec (f86_E k c86 c93) f86_code (endK (f86_E k c86 c93) Try.f86 [] f86_un retF) ⟨[.val 53 p1, .undef, .undef, .undef, .undef, .undef, .undef, .undef, .undef, .undef, .undef, .undef, .undef, .undef, .undef, .undef, .undef, .undef, .undef, .undef, .undef, .undef, .undef, .undef, .undef, .undef, .undef, .undef, .undef, .undef, .undef, .undef, .undef, .undef, .undef, .undef, .undef, .undef, .undef, .undef, .undef, .undef, .undef, .undef, .undef, .undef, .undef, .undef, .undef, .undef, .undef, .undef, .undef, .undef, .undef, .undef, .undef, .undef, .undef, .undef, .undef, .undef, .undef, .undef, .undef, .undef, .undef, .undef, .undef, .undef, .undef], []⟩ = f86_N k c86 c93 (fun y0 => retF y0) p1 :=
  (f86_e_mem k c86 c93 retF p1).trans (by rw [show (fun n4 => f86_w1A k c86 c93 retF p1 n4) = (fun n4 => f86_w1N k c86 c93 (fun y0 => retF y0) p1 n4) from funext fun n4 => f86_w1_eq k c86 c93 retF p1 n4, show (fun n7 => f86_w2A k c86 c93 retF p1 n7) = (fun n7 => f86_w2N k c86 c93 (fun y0 => retF y0) p1 n7) from funext fun n7 => f86_w2_eq k c86 c93 retF p1 n7, show (fun n10 => f86_w3A k c86 c93 retF p1 n10) = (fun n10 => f86_w3N k c86 c93 (fun y0 => retF y0) p1 n10) from funext fun n10 => f86_w3_eq k c86 c93 retF p1 n10, show (fun n13 => f86_w4A k c86 c93 retF p1 n13) = (fun n13 => f86_w4N k c86 c93 (fun y0 => retF y0) p1 n13) from funext fun n13 => f86_w4_eq k c86 c93 retF p1 n13, show (fun n16 => f86_w5A k c86 c93 retF p1 n16) = (fun n16 => f86_w5N k c86 c93 (fun y0 => retF y0) p1 n16) from funext fun n16 => f86_w5_eq k c86 c93 retF p1 n16, show (fun n19 => f86_w6A k c86 c93 retF p1 n19) = (fun n19 => f86_w6N k c86 c93 (fun y0 => retF y0) p1 n19) from funext fun n19 => f86_w6_eq k c86 c93 retF p1 n19, show (fun n22 => f86_w7A k c86 c93 retF p1 n22) = (fun n22 => f86_w7N k c86 c93 (fun y0 => retF y0) p1 n22) from funext fun n22 => f86_w7_eq k c86 c93 retF p1 n22, show (fun n25 => f86_w8A k c86 c93 retF p1 n25) = (fun n25 => f86_w8N k c86 c93 (fun y0 => retF y0) p1 n25) from funext fun n25 => f86_w8_eq k c86 c93 retF p1 n25]; rfl)

noncomputable def G86 : Nat → PV → (Bool → R) → R
  | 0, _, _ => none
  | k + 1, p1, ret0 => f86_N k (G86 k) (G93 k) ret0 p1
theorem S86 : ∀ k, Snd Try.prog 86 f86_I f86_O (fun x ret => G86 k x (fun y0 => ret y0))
  | 0 => snd_none
  | k + 1 => snd_step (E := f86_E k (G86 k) (G93 k)) rfl laidOut noNums (orc_ok (S86 k).o f86_D_ok (orc_ok (S93 k).o f93_D_ok orc0_ok)) (f := 86) (fn := Try.f86) (code := f86_code) Try.func86 (by kernel_rfl) (drawsOk_of laidOut (orc_ok (S86 k).o f86_D_ok (orc_ok (S93 k).o f93_D_ok orc0_ok)) mixed (by kernel_rfl)) f86_un f86_un_ok [] (fun _ => rfl)
      (fun x ret => f86_eq k (G86 k) (G93 k) ret x)

/- catchpole/catchpoleref8.Good -/
noncomputable def f67_I : PV → List SV × Obs := fun x => ([.val 53 x], [])
noncomputable def f67_D : List SV → Obs → Option (PV)
  | [.val 53 p1], [] => some p1
  | _, _ => none
theorem f67_D_ok (args : List SV) (B : Obs) (x : PV) (h : f67_D args B = some x) : f67_I x = (args, B) := by
  unfold f67_D at h
  split at h
  · injection h with h; subst h; rfl
  · cases h
noncomputable def f67_O : Bool → Out := (fun y => ([.bool y], []))
noncomputable def f67_un : Out → Option (Bool)
  | ([.bool y0], []) => some y0
  | _ => none
theorem f67_un_ok (o : Out) (y : Bool) (h : f67_un o = some y) : o = f67_O y := by
  unfold f67_un at h
  split at h
  · injection h with h; subst h; rfl
  · cases h
noncomputable def f67_msk : Nat → Option (List Nat) := fun key =>  none
noncomputable def f67_C (c84 : PV → Int → (Int → R) → R) (c85 : PV → Int → (Int → R) → R) (c86 : PV → (Bool → R) → R) : Oracle := orc 84 f84_D f84_O (fun x ret => c84 x.1 x.2 (fun y0 => ret y0)) <| orc 85 f85_D f85_O (fun x ret => c85 x.1 x.2 (fun y0 => ret y0)) <| orc 86 f86_D f86_O (fun x ret => c86 x (fun y0 => ret y0)) <| orc0
noncomputable def f67_E (k : Nat) (c84 : PV → Int → (Int → R) → R) (c85 : PV → Int → (Int → R) → R) (c86 : PV → (Bool → R) → R) : Env := { P := Try.prog, nilOwn := fun d => false, fldOwn := fun d i => false, ownPar := ownPars, ownRet := false, mask := f67_msk, fuel := k, C := f67_C c84 c85 c86 }
noncomputable def f67_code : Code := Try.f67.body.getD .skip
noncomputable def f67_e (c84 : PV → Int → (Int → R) → R) (c85 : PV → Int → (Int → R) → R) (c86 : PV → (Bool → R) → R) (ret0 : Bool → R) (p1 : PV) : R :=
  c84 p1 2001 fun n2 =>
  bif ((decide (n2 ≤ (2000 : Int))) == true) then
    c85 p1 8000 fun n3 =>
    bif ((decide (n3 ≤ (8000 : Int))) == true) then
      c86 p1 fun b4 =>
      ret0 b4
    else ret0 false
  else ret0 false

theorem f67_e_mem (k : Nat) (c84 : PV → Int → (Int → R) → R) (c85 : PV → Int → (Int → R) → R) (c86 : PV → (Bool → R) → R) (retF : Bool → R) (p1 : PV) : exec (f67_E k c84 c85 c86) f67_code (endK (f67_E k c84 c85 c86) Try.f67 [] f67_un retF) ⟨[.val 53 p1, .undef, .undef, .undef, .undef, .undef, .undef, .undef, .undef, .undef, .undef, .undef, .undef, .undef, .undef], []⟩ = f67_e c84 c85 c86 (fun y0 => retF y0) p1 := by kernel_rfl

noncomputable def f67_N (k : Nat) (c84 : PV → Int → (Int → R) → R) (c85 : PV → Int → (Int → R) → R) (c86 : PV → (Bool → R) → R) (ret0 : Bool → R) (p1 : PV) : R :=
  f67_e c84 c85 c86 ret0 p1
theorem f67_eq (k : Nat) (c84 : PV → Int → (Int → R) → R) (c85 : PV → Int → (Int → R) → R) (c86 : PV → (Bool → R) → R) (retF : Bool → R) (p1 : PV) : exec (f67_E k c84 c85 c86) f67_code (endK (f67_E k c84 c85 c86) Try.f67 [] f67_un retF) ⟨[.val 53 p1, .undef, .undef, .undef, .undef, .undef, .undef, .undef, .undef, .undef, .undef, .undef, .undef, .undef, .undef], []⟩ = f67_N k c84 c85 c86 (fun y0 => retF y0) p1 :=
  (f67_e_mem k c84 c85 c86 retF p1)

noncomputable def G67 : Nat → PV → (Bool → R) → R
  | 0, _, _ => none
  | k + 1, p1, ret0 => f67_N k (G84 k) (G85 k) (G86 k) ret0 p1
theorem S67 : ∀ k, Snd Try.prog 67 f67_I f67_O (fun x ret => G67 k x (fun y0 => ret y0))
  | 0 => snd_none
  | k + 1 => snd_step (E := f67_E k (G84 k) (G85 k) (G86 k)) rfl laidOut noNums (orc_ok (S84 k).o f84_D_ok (orc_ok (S85 k).o f85_D_ok (orc_ok (S86 k).o f86_D_ok orc0_ok))) (f := 67) (fn := Try.f67) (code := f67_code) Try.func67 (by kernel_rfl) (drawsOk_of laidOut (orc_ok (S84 k).o f84_D_ok (orc_ok (S85 k).o f85_D_ok (orc_ok (S86 k).o f86_D_ok orc0_ok))) mixed (by kernel_rfl)) f67_un f67_un_ok [] (fun _ => rfl)
      (fun x ret => f67_eq k (G84 k) (G85 k) (G86 k) ret x)

/- catchpole/catchpoleref8.counts -/
noncomputable def f69_I : PV → List SV × Obs := fun x => ([.val 57 x], [])
noncomputable def f69_D : List SV → Obs → Option (PV)
  | [.val 57 p1], [] => some p1
  | _, _ => none
theorem f69_D_ok (args : List SV) (B : Obs) (x : PV) (h : f69_D args B = some x) : f69_I x = (args, B) := by
  unfold f69_D at h
  split at h
  · injection h with h; subst h; rfl
  · cases h
noncomputable def f69_O : PV → Out := (fun y => ([.val 55 y], []))
noncomputable def f69_un : Out → Option (PV)
  | ([.val 55 y0], []) => some y0
  | _ => none
theorem f69_un_ok (o : Out) (y : PV) (h : f69_un o = some y) : o = f69_O y := by
  unfold f69_un at h
  split at h
  · injection h with h; subst h; rfl
  · cases h
noncomputable def f69_msk : Nat → Option (List Nat) := fun key =>  none
noncomputable def f69_C : Oracle := orc0
noncomputable def f69_E (k : Nat) : Env := { P := Try.prog, nilOwn := fun d => false, fldOwn := fun d i => false, ownPar := ownPars, ownRet := false, mask := f69_msk, fuel := k, C := f69_C }
noncomputable def f69_code : Code := Try.f69.body.getD .skip
noncomputable def f69_e (ret0 : PV → R) (p1 : PV) : R :=
  bif (decide ((PV.num (PV.fld p1 0)) = (3 : Int))) then
    bif (decide ((List.length (PV.els (PV.fld p1 2)) : Int) < (2 : Int))) then
      bif (decide ((0 : Int) ≤ (0 : Int)) && decide ((0 : Int) ≤ (List.length (PV.els (PV.fld p1 2)) : Int)) && decide ((List.length (PV.els (PV.fld p1 2)) : Int) ≤ (List.length (PV.els (PV.fld p1 2)) : Int))) then
        ret0 (PV.list (List.drop ((0 : Int)).toNat (List.take ((List.length (PV.els (PV.fld p1 2)) : Int)).toNat (PV.els (PV.fld p1 2)))))
      else none
    else bif (decide ((0 : Int) ≤ (0 : Int)) && decide ((0 : Int) ≤ (2 : Int)) && decide ((2 : Int) ≤ (List.length (PV.els (PV.fld p1 2)) : Int))) then
      ret0 (PV.list (List.drop ((0 : Int)).toNat (List.take ((2 : Int)).toNat (PV.els (PV.fld p1 2)))))
    else none
  else bif (decide ((PV.num (PV.fld p1 0)) = (4 : Int))) then
    bif (decide ((List.length (PV.els (PV.fld p1 2)) : Int) < (1 : Int))) then
      bif (decide ((0 : Int) ≤ (0 : Int)) && decide ((0 : Int) ≤ (List.length (PV.els (PV.fld p1 2)) : Int)) && decide ((List.length (PV.els (PV.fld p1 2)) : Int) ≤ (List.length (PV.els (PV.fld p1 2)) : Int))) then
        ret0 (PV.list (List.drop ((0 : Int)).toNat (List.take ((List.length (PV.els (PV.fld p1 2)) : Int)).toNat (PV.els (PV.fld p1 2)))))
      else none
    else bif (decide ((0 : Int) ≤ (0 : Int)) && decide ((0 : Int) ≤ (1 : Int)) && decide ((1 : Int) ≤ (List.length (PV.els (PV.fld p1 2)) : Int))) then
      ret0 (PV.list (List.drop ((0 : Int)).toNat (List.take ((1 : Int)).toNat (PV.els (PV.fld p1 2)))))
    else none
  else bif (decide ((PV.num (PV.fld p1 0)) = (5 : Int))) then
    bif (decide ((List.length (PV.els (PV.fld p1 2)) : Int) < (1 : Int))) then
      bif (decide ((0 : Int) ≤ (0 : Int)) && decide ((0 : Int) ≤ (List.length (PV.els (PV.fld p1 2)) : Int)) && decide ((List.length (PV.els (PV.fld p1 2)) : Int) ≤ (List.length (PV.els (PV.fld p1 2)) : Int))) then
        ret0 (PV.list (List.drop ((0 : Int)).toNat (List.take ((List.length (PV.els (PV.fld p1 2)) : Int)).toNat (PV.els (PV.fld p1 2)))))
      else none
    else bif (decide ((0 : Int) ≤ (0 : Int)) && decide ((0 : Int) ≤ (1 : Int)) && decide ((1 : Int) ≤ (List.length (PV.els (PV.fld p1 2)) : Int))) then
      ret0 (PV.list (List.drop ((0 : Int)).toNat (List.take ((1 : Int)).toNat (PV.els (PV.fld p1 2)))))
    else none
  else bif (decide ((PV.num (PV.fld p1 0)) = (7 : Int))) then
    bif (decide ((List.length (PV.els (PV.fld p1 2)) : Int) < (1 : Int))) then
      bif (decide ((0 : Int) ≤ (0 : Int)) && decide ((0 : Int) ≤ (List.length (PV.els (PV.fld p1 2)) : Int)) && decide ((List.length (PV.els (PV.fld p1 2)) : Int) ≤ (List.length (PV.els (PV.fld p1 2)) : Int))) then
        ret0 (PV.list (List.drop ((0 : Int)).toNat (List.take ((List.length (PV.els (PV.fld p1 2)) : Int)).toNat (PV.els (PV.fld p1 2)))))
      else none
    else bif (decide ((0 : Int) ≤ (0 : Int)) && decide ((0 : Int) ≤ (1 : Int)) && decide ((1 : Int) ≤ (List.length (PV.els (PV.fld p1 2)) : Int))) then
      ret0 (PV.list (List.drop ((0 : Int)).toNat (List.take ((1 : Int)).toNat (PV.els (PV.fld p1 2)))))
    else none
  else bif (decide ((PV.num (PV.fld p1 0)) = (6 : Int))) then
    bif (decide ((List.length (PV.els (PV.fld p1 2)) : Int) < (List.length (PV.els (PV.fld p1 2)) : Int))) then
      bif (decide ((0 : Int) ≤ (0 : Int)) && decide ((0 : Int) ≤ (List.length (PV.els (PV.fld p1 2)) : Int)) && decide ((List.length (PV.els (PV.fld p1 2)) : Int) ≤ (List.length (PV.els (PV.fld p1 2)) : Int))) then
        ret0 (PV.list (List.drop ((0 : Int)).toNat (List.take ((List.length (PV.els (PV.fld p1 2)) : Int)).toNat (PV.els (PV.fld p1 2)))))
      else none
    else bif (decide ((0 : Int) ≤ (0 : Int)) && decide ((0 : Int) ≤ (List.length (PV.els (PV.fld p1 2)) : Int)) && decide ((List.length (PV.els (PV.fld p1 2)) : Int) ≤ (List.length (PV.els (PV.fld p1 2)) : Int))) then
      ret0 (PV.list (List.drop ((0 : Int)).toNat (List.take ((List.length (PV.els (PV.fld p1 2)) : Int)).toNat (PV.els (PV.fld p1 2)))))
    else none
  else bif (decide ((List.length (PV.els (PV.fld p1 2)) : Int) < (0 : Int))) then
    bif (decide ((0 : Int) ≤ (0 : Int)) && decide ((0 : Int) ≤ (List.length (PV.els (PV.fld p1 2)) : Int)) && decide ((List.length (PV.els (PV.fld p1 2)) : Int) ≤ (List.length (PV.els (PV.fld p1 2)) : Int))) then
      ret0 (PV.list (List.drop ((0 : Int)).toNat (List.take ((List.length (PV.els (PV.fld p1 2)) : Int)).toNat (PV.els (PV.fld p1 2)))))
    else none
  else bif (decide ((0 : Int) ≤ (0 : Int)) && decide ((0 : Int) ≤ (0 : Int)) && decide ((0 : Int) ≤ (List.length (PV.els (PV.fld p1 2)) : Int))) then
    ret0 (PV.list (List.drop ((0 : Int)).toNat (List.take ((0 : Int)).toNat (PV.els (PV.fld p1 2)))))
  else none

theorem f69_e_mem (k : Nat) (retF : PV → R) (p1 : PV) : exec (f69_E k) f69_code (endK (f69_E k) Try.f69 [] f69_un retF) ⟨[.val 57 p1, .undef, .undef, .undef, .undef, .undef, .undef, .undef, .undef, .undef, .undef, .undef, .undef, .undef, .undef, .undef, .undef, .undef, .undef, .undef, .undef, .undef, .undef, .undef, .undef, .undef, .undef, .undef, .undef], []⟩ = f69_e (fun y0 => retF y0) p1 := by kernel_rfl

noncomputable def f69_N (k : Nat) (ret0 : PV → R) (p1 : PV) : R :=
  f69_e ret0 p1
theorem f69_eq (k : Nat) (retF : PV → R) (p1 : PV) : exec (f69_E k) f69_code (endK (f69_E k) Try.f69 [] f69_un retF) ⟨[.val 57 p1, .undef, .undef, .undef, .undef, .undef, .undef, .undef, .undef, .undef, .undef, .undef, .undef, .undef, .undef, .undef, .undef, .undef, .undef, .undef, .undef, .undef, .undef, .undef, .undef, .undef, .undef, .undef, .undef], []⟩ = f69_N k (fun y0 => retF y0) p1 :=
  (f69_e_mem k retF p1)

noncomputable def G69 : Nat → PV → (PV → R) → R
  | 0, _, _ => none
  | k + 1, p1, ret0 => f69_N k  ret0 p1
theorem S69 : ∀ k, Snd Try.prog 69 f69_I f69_O (fun x ret => G69 k x (fun y0 => ret y0))
  | 0 => snd_none
  | k + 1 => snd_step (E := f69_E k ) rfl laidOut noNums orc0_ok (f := 69) (fn := Try.f69) (code := f69_code) Try.func69 (by kernel_rfl) (drawsOk_of laidOut orc0_ok mixed (by kernel_rfl)) f69_un f69_un_ok [] (fun _ => rfl)
      (fun x ret => f69_eq k  ret x)

/- catchpole/catchpoleref8.Flat -/
noncomputable def f36_I : PV → List SV × Obs := fun x => ([.val 57 x], [])
noncomputable def f36_D : List SV → Obs → Option (PV)
  | [.val 57 p1], [] => some p1
  | _, _ => none
theorem f36_D_ok (args : List SV) (B : Obs) (x : PV) (h : f36_D args B = some x) : f36_I x = (args, B) := by
  unfold f36_D at h
  split at h
  · injection h with h; subst h; rfl
  · cases h
noncomputable def f36_O : PV → Out := (fun y => ([.val 43 y], []))
noncomputable def f36_un : Out → Option (PV)
  | ([.val 43 y0], []) => some y0
  | _ => none
theorem f36_un_ok (o : Out) (y : PV) (h : f36_un o = some y) : o = f36_O y := by
  unfold f36_un at h
  split at h
  · injection h with h; subst h; rfl
  · cases h
noncomputable def f36_msk : Nat → Option (List Nat) := fun key => bif key == 18 then some [3, 4, 5] else none
noncomputable def f36_C (c36 : PV → (PV → R) → R) (c69 : PV → (PV → R) → R) : Oracle := orc 36 f36_D f36_O (fun x ret => c36 x (fun y0 => ret y0)) <| orc 69 f69_D f69_O (fun x ret => c69 x (fun y0 => ret y0)) <| orc0
noncomputable def f36_E (k : Nat) (c36 : PV → (PV → R) → R) (c69 : PV → (PV → R) → R) : Env := { P := Try.prog, nilOwn := fun d => d == 3, fldOwn := fun d i => false, ownPar := ownPars, ownRet := false, mask := f36_msk, fuel := k, C := f36_C c36 c69 }
noncomputable def f36_code : Code := Try.f36.body.getD .skip
noncomputable def f36_cw1 : Code := subC f36_code [1, 1, 1, 1, 0, 1, 0, 0]
noncomputable def f36_hw1_0 (p2 : PV) (n4 : Int) (l5 : List PV) : St := ⟨[.dead, .dead, .dead, .own 43 3, .val 55 p2, .int .i64 n4, .dead, .dead, .dead, .dead, .dead, .dead, .dead, .dead, .dead, .dead, .dead, .dead, .dead, .dead, .dead, .dead, .dead, .dead, .dead, .dead, .dead, .dead], [(3, .row 5 l5)]⟩
noncomputable def f36_w1A (k : Nat) (c36 : PV → (PV → R) → R) (c69 : PV → (PV → R) → R) (retF : PV → R) (p2 : PV) (n4 : Int) (l5 : List PV) : R := loopM (f36_E k c36 c69) f36_cw1 (kont (f36_E k c36 c69) f36_code [1, 1, 1, 1, 0, 1, 0] (endK (f36_E k c36 c69) Try.f36 [] f36_un retF)) k (f36_hw1_0 p2 n4 l5)
noncomputable def f36_w1b0 (c36 : PV → (PV → R) → R) (c69 : PV → (PV → R) → R) (ret0 : PV → R) (next_w1_0 : Int → (List PV) → R) (p2 : PV) (n4 : Int) (l5 : List PV) : R :=
  bif (decide (n4 < (List.length (PV.els p2) : Int))) then
    bif (true && decide ((0 : Int) ≤ n4) && decide (n4 < (List.length (PV.els p2) : Int))) then
      c36 (List.getD (PV.els p2) (n4).toNat PV.nil) fun p6 =>
      bif (true && roomy (List.length l5 + List.length (PV.els p6)) 1) then
        next_w1_0 (IntKind.wrap .i64 (n4 + (1 : Int))) (l5 ++ (PV.els p6))
      else none
    else none
  else ret0 (PV.list l5)

theorem f36_w1b0_mem (k : Nat) (c36 : PV → (PV → R) → R) (c69 : PV → (PV → R) → R) (retF : PV → R) (NX_w1 : St → R) (p2 : PV) (n4 : Int) (l5 : List PV) : exec (f36_E k c36 c69) f36_cw1 (purgeK (f36_E k c36 c69) f36_cw1 (loopK NX_w1 (kont (f36_E k c36 c69) f36_code [1, 1, 1, 1, 0, 1, 0] (endK (f36_E k c36 c69) Try.f36 [] f36_un retF)))) (f36_hw1_0 p2 n4 l5) = f36_w1b0 c36 c69 (fun y0 => retF y0) (fun n4 l5 => NX_w1 (f36_hw1_0 p2 n4 l5)) p2 n4 l5 := by kernel_rfl

noncomputable def f36_w1b0N (k : Nat) (c36 : PV → (PV → R) → R) (c69 : PV → (PV → R) → R) (ret0 : PV → R) (next_w1_0 : Int → (List PV) → R) (p2 : PV) (n4 : Int) (l5 : List PV) : R :=
  f36_w1b0 c36 c69 ret0 next_w1_0 p2 n4 l5
theorem f36_w1b0_eq (k : Nat) (c36 : PV → (PV → R) → R) (c69 : PV → (PV → R) → R) (retF : PV → R) (NX_w1 : St → R) (p2 : PV) (n4 : Int) (l5 : List PV) : exec (f36_E k c36 c69) f36_cw1 (purgeK (f36_E k c36 c69) f36_cw1 (loopK NX_w1 (kont (f36_E k c36 c69) f36_code [1, 1, 1, 1, 0, 1, 0] (endK (f36_E k c36 c69) Try.f36 [] f36_un retF)))) (f36_hw1_0 p2 n4 l5) = f36_w1b0N k c36 c69 (fun y0 => retF y0) (fun n4 l5 => NX_w1 (f36_hw1_0 p2 n4 l5)) p2 n4 l5 :=
  (f36_w1b0_mem k c36 c69 retF NX_w1 p2 n4 l5)

noncomputable def f36_w1B (k : Nat) (c36 : PV → (PV → R) → R) (c69 : PV → (PV → R) → R) (ret0 : PV → R) (p2 : PV) (nx : Int × (List PV) → R) : Int × (List PV) → R := (fun s => f36_w1b0N k c36 c69 ret0 (fun n4 l5 => nx (n4, l5)) p2 s.1 s.2)
noncomputable def f36_w1N (k : Nat) (c36 : PV → (PV → R) → R) (c69 : PV → (PV → R) → R) (ret0 : PV → R) (p2 : PV) (n4 : Int) (l5 : List PV) : R := loopR (f36_w1B k c36 c69 ret0 p2) k (n4, l5)
theorem f36_w1_eq (k : Nat) (c36 : PV → (PV → R) → R) (c69 : PV → (PV → R) → R) (retF : PV → R) (p2 : PV) (n4 : Int) (l5 : List PV) : f36_w1A k c36 c69 retF p2 n4 l5 = f36_w1N k c36 c69 (fun y0 => retF y0) p2 n4 l5 :=
  Eq.mp (by kernel_rfl) (loop_sim (E := (f36_E k c36 c69)) (c := f36_cw1) (K := (kont (f36_E k c36 c69) f36_code [1, 1, 1, 1, 0, 1, 0] (endK (f36_E k c36 c69) Try.f36 [] f36_un retF))) (S := Int × (List PV)) (fun s => f36_hw1_0 p2 s.1 s.2) (f36_w1B k c36 c69 (fun y0 => retF y0) p2) (fun NX s => by
    exact Eq.mp (by kernel_rfl) (f36_w1b0_eq k c36 c69 retF NX p2 s.1 s.2)) k (n4, l5))

noncomputable def f36_e (c36 : PV → (PV → R) → R) (c69 : PV → (PV → R) → R) (ret0 : PV → R) (w1 : PV → Int → (List PV) → R) (p1 : PV) : R :=
  bif (decide ((PV.num (PV.fld p1 0)) = (2 : Int))) then
    ret0 (PV.list [(PV.int (PV.num (PV.fld p1 1)))])
  else c69 p1 fun p2 =>
  w1 p2 0 []

theorem f36_e_mem (k : Nat) (c36 : PV → (PV → R) → R) (c69 : PV → (PV → R) → R) (retF : PV → R) (p1 : PV) : exec (f36_E k c36 c69) f36_code (endK (f36_E k c36 c69) Try.f36 [] f36_un retF) ⟨[.val 57 p1, .undef, .undef, .undef, .undef, .undef, .undef, .undef, .undef, .undef, .undef, .undef, .undef, .undef, .undef, .undef, .undef, .undef, .undef, .undef, .undef, .undef, .undef, .undef, .undef, .undef, .undef, .undef], []⟩ = f36_e c36 c69 (fun y0 => retF y0) (fun p2 n4 l5 => f36_w1A k c36 c69 retF p2 n4 l5) p1 := by kernel_rfl

noncomputable def f36_N (k : Nat) (c36 : PV → (PV → R) → R) (c69 : PV → (PV → R) → R) (ret0 : PV → R) (p1 : PV) : R :=
  f36_e c36 c69 ret0 (fun p2 n4 l5 => f36_w1N k c36 c69 ret0 p2 n4 l5) p1
theorem f36_eq (k : Nat) (c36 : PV → (PV → R) → R) (c69 : PV → (PV → R) → R) (retF : PV → R) (p1 : PV) : exec (f36_E k c36 c69) f36_code (endK (f36_E k c36 c69) Try.f36 [] f36_un retF) ⟨[.val 57 p1, .undef, .undef, .undef, .undef, .undef, .undef, .undef, .undef, .undef, .undef, .undef, .undef, .undef, .undef, .undef, .undef, .undef, .undef, .undef, .undef, .undef, .undef, .undef, .undef, .undef, .undef, .undef], []⟩ = f36_N k c36 c69 (fun y0 => retF y0) p1 :=
  (f36_e_mem k c36 c69 retF p1).trans (by rw [show (fun p2 n4 l5 => f36_w1A k c36 c69 retF p2 n4 l5) = (fun p2 n4 l5 => f36_w1N k c36 c69 (fun y0 => retF y0) p2 n4 l5) from funext fun p2 => funext fun n4 => funext fun l5 => f36_w1_eq k c36 c69 retF p2 n4 l5]; rfl)

noncomputable def G36 : Nat → PV → (PV → R) → R
  | 0, _, _ => none
  | k + 1, p1, ret0 => f36_N k (G36 k) (G69 k) ret0 p1
theorem S36 : ∀ k, Snd Try.prog 36 f36_I f36_O (fun x ret => G36 k x (fun y0 => ret y0))
  | 0 => snd_none
  | k + 1 => snd_step (E := f36_E k (G36 k) (G69 k)) rfl laidOut noNums (orc_ok (S36 k).o f36_D_ok (orc_ok (S69 k).o f69_D_ok orc0_ok)) (f := 36) (fn := Try.f36) (code := f36_code) Try.func36 (by kernel_rfl) (drawsOk_of laidOut (orc_ok (S36 k).o f36_D_ok (orc_ok (S69 k).o f69_D_ok orc0_ok)) mixed (by kernel_rfl)) f36_un f36_un_ok [] (fun _ => rfl)
      (fun x ret => f36_eq k (G36 k) (G69 k) ret x)

/- catchpole/catchpoleref8.goodValue -/
noncomputable def f68_I : PV × PV × Bool → List SV × Obs := fun x => ([.val 53 x.1, .val 57 x.2.1, .bool x.2.2], [])
noncomputable def f68_D : List SV → Obs → Option (PV × PV × Bool)
  | [.val 53 p1, .val 57 p2, .bool b3], [] => some (p1, p2, b3)
  | _, _ => none
theorem f68_D_ok (args : List SV) (B : Obs) (x : PV × PV × Bool) (h : f68_D args B = some x) : f68_I x = (args, B) := by
  unfold f68_D at h
  split at h
  · injection h with h; subst h; rfl
  · cases h
noncomputable def f68_O : Bool → Out := (fun y => ([.bool y], []))
noncomputable def f68_un : Out → Option (Bool)
  | ([.bool y0], []) => some y0
  | _ => none
theorem f68_un_ok (o : Out) (y : Bool) (h : f68_un o = some y) : o = f68_O y := by
  unfold f68_un at h
  split at h
  · injection h with h; subst h; rfl
  · cases h
noncomputable def f68_msk : Nat → Option (List Nat) := fun key => bif key == 54 then some [2, 3, 4, 7] else none
noncomputable def f68_C (c36 : PV → (PV → R) → R) (c68 : PV → PV → Bool → (Bool → R) → R) : Oracle := orc 36 f36_D f36_O (fun x ret => c36 x (fun y0 => ret y0)) <| orc 68 f68_D f68_O (fun x ret => c68 x.1 x.2.1 x.2.2 (fun y0 => ret y0)) <| orc0
noncomputable def f68_E (k : Nat) (c36 : PV → (PV → R) → R) (c68 : PV → PV → Bool → (Bool → R) → R) : Env := { P := Try.prog, nilOwn := fun d => false, fldOwn := fun d i => false, ownPar := ownPars, ownRet := false, mask := f68_msk, fuel := k, C := f68_C c36 c68 }
noncomputable def f68_code : Code := Try.f68.body.getD .skip
noncomputable def f68_cw1 : Code := subC f68_code [1, 1, 1, 0, 1, 0, 1, 1, 1, 1, 1, 1, 1, 1, 1, 0, 1, 0, 1, 0, 0]
noncomputable def f68_hw1_0 (p1 : PV) (p2 : PV) (b3 : Bool) (n13 : Int) : St := ⟨[.dead, .dead, .bool b3, .ptr 3 [], .ptr 4 [], .dead, .dead, .int .i64 n13, .dead, .dead, .dead, .dead, .dead, .dead, .dead, .dead, .dead, .dead, .dead, .dead, .dead, .dead, .dead, .dead, .dead, .dead, .dead, .dead, .dead, .dead, .dead, .dead, .dead, .dead, .dead, .dead, .dead, .dead, .dead, .dead, .dead, .dead, .dead, .dead, .dead, .dead, .dead, .dead, .dead, .dead, .dead, .dead, .dead, .dead, .dead, .dead, .dead, .dead, .dead, .dead, .dead, .dead, .dead, .dead, .dead, .dead, .dead, .dead, .dead, .dead, .dead, .dead, .dead, .dead, .dead, .dead, .dead, .dead, .dead, .dead, .dead, .dead, .dead, .dead, .dead, .dead, .dead, .dead, .dead, .dead, .dead, .dead, .dead, .dead, .dead, .dead, .dead, .dead, .dead, .dead, .dead, .dead, .dead, .dead, .dead, .dead, .dead, .dead, .dead, .dead, .dead, .dead, .dead, .dead, .dead, .dead, .dead, .dead, .dead, .dead, .dead, .dead, .dead, .dead, .dead, .dead, .dead, .dead, .dead, .dead, .dead, .dead, .dead, .dead, .dead, .dead, .dead, .dead, .dead, .dead, .dead, .dead, .dead, .dead, .dead, .dead, .dead, .dead, .dead, .dead, .dead, .dead, .dead, .dead, .dead, .dead, .dead, .dead, .dead, .dead, .dead, .dead, .dead, .dead, .dead, .dead, .dead, .dead, .dead, .dead, .dead, .dead, .dead, .dead, .dead, .dead, .dead, .dead, .dead, .dead, .dead, .dead, .dead], [(3, .box 53 (.val 53 p1)), (4, .box 57 (.val 57 p2))]⟩
noncomputable def f68_w1A (k : Nat) (c36 : PV → (PV → R) → R) (c68 : PV → PV → Bool → (Bool → R) → R) (retF : Bool → R) (p1 : PV) (p2 : PV) (b3 : Bool) (n13 : Int) : R := loopM (f68_E k c36 c68) f68_cw1 (kont (f68_E k c36 c68) f68_code [1, 1, 1, 0, 1, 0, 1, 1, 1, 1, 1, 1, 1, 1, 1, 0, 1, 0, 1, 0] (endK (f68_E k c36 c68) Try.f68 [] f68_un retF)) k (f68_hw1_0 p1 p2 b3 n13)
noncomputable def f68_w1b0 (c36 : PV → (PV → R) → R) (c68 : PV → PV → Bool → (Bool → R) → R) (ret0 : Bool → R) (next_w1_0 : Int → R) (p1 : PV) (p2 : PV) (b3 : Bool) (n13 : Int) : R :=
  bif (decide (n13 < (List.length (PV.els (PV.fld p2 2)) : Int))) then
    bif (true && decide ((0 : Int) ≤ (0 : Int)) && decide ((0 : Int) < (List.length (PV.els (PV.fld p1 3)) : Int))) then
      bif (true && decide ((0 : Int) ≤ n13) && decide (n13 < (List.length (PV.els (PV.fld p2 2)) : Int))) then
        c68 (List.getD (PV.els (PV.fld p1 3)) ((0 : Int)).toNat PV.nil) (List.getD (PV.els (PV.fld p2 2)) (n13).toNat PV.nil) b3 fun b14 =>
        bif ((!b14) == false) then
          bif (b3 == true) then
            bif (true && decide ((0 : Int) ≤ n13) && decide (n13 < (List.length (PV.els (PV.fld p2 2)) : Int))) then
              c36 (List.getD (PV.els (PV.fld p2 2)) (n13).toNat PV.nil) fun p15 =>
              bif (decide ((List.length (PV.els p15) : Int) = (0 : Int))) then
                ret0 false
              else next_w1_0 (IntKind.wrap .i64 (n13 + (1 : Int)))
            else none
          else next_w1_0 (IntKind.wrap .i64 (n13 + (1 : Int)))
        else ret0 false
      else none
    else none
  else ret0 true

theorem f68_w1b0_mem (k : Nat) (c36 : PV → (PV → R) → R) (c68 : PV → PV → Bool → (Bool → R) → R) (retF : Bool → R) (NX_w1 : St → R) (p1 : PV) (p2 : PV) (b3 : Bool) (n13 : Int) : exec (f68_E k c36 c68) f68_cw1 (purgeK (f68_E k c36 c68) f68_cw1 (loopK NX_w1 (kont (f68_E k c36 c68) f68_code [1, 1, 1, 0, 1, 0, 1, 1, 1, 1, 1, 1, 1, 1, 1, 0, 1, 0, 1, 0] (endK (f68_E k c36 c68) Try.f68 [] f68_un retF)))) (f68_hw1_0 p1 p2 b3 n13) = f68_w1b0 c36 c68 (fun y0 => retF y0) (fun n13 => NX_w1 (f68_hw1_0 p1 p2 b3 n13)) p1 p2 b3 n13 := by kernel_rfl

noncomputable def f68_w1b0N (k : Nat) (c36 : PV → (PV → R) → R) (c68 : PV → PV → Bool → (Bool → R) → R) (ret0 : Bool → R) (next_w1_0 : Int → R) (p1 : PV) (p2 : PV) (b3 : Bool) (n13 : Int) : R :=
  f68_w1b0 c36 c68 ret0 next_w1_0 p1 p2 b3 n13
theorem f68_w1b0_eq (k : Nat) (c36 : PV → (PV → R) → R) (c68 : PV → PV → Bool → (Bool → R) → R) (retF : Bool → R) (NX_w1 : St → R) (p1 : PV) (p2 : PV) (b3 : Bool) (n13 : Int) : exec (f68_E k c36 c68) f68_cw1 (purgeK (f68_E k c36 c68) f68_cw1 (loopK NX_w1 (kont (f68_E k c36 c68) f68_code [1, 1, 1, 0, 1, 0, 1, 1, 1, 1, 1, 1, 1, 1, 1, 0, 1, 0, 1, 0] (endK (f68_E k c36 c68) Try.f68 [] f68_un retF)))) (f68_hw1_0 p1 p2 b3 n13) = f68_w1b0N k c36 c68 (fun y0 => retF y0) (fun n13 => NX_w1 (f68_hw1_0 p1 p2 b3 n13)) p1 p2 b3 n13 :=
  (f68_w1b0_mem k c36 c68 retF NX_w1 p1 p2 b3 n13)

noncomputable def f68_w1B (k : Nat) (c36 : PV → (PV → R) → R) (c68 : PV → PV → Bool → (Bool → R) → R) (ret0 : Bool → R) (p1 : PV) (p2 : PV) (b3 : Bool) (nx : Int → R) : Int → R := (fun s => f68_w1b0N k c36 c68 ret0 (fun n13 => nx n13) p1 p2 b3 s)
noncomputable def f68_w1N (k : Nat) (c36 : PV → (PV → R) → R) (c68 : PV → PV → Bool → (Bool → R) → R) (ret0 : Bool → R) (p1 : PV) (p2 : PV) (b3 : Bool) (n13 : Int) : R := loopR (f68_w1B k c36 c68 ret0 p1 p2 b3) k n13
theorem f68_w1_eq (k : Nat) (c36 : PV → (PV → R) → R) (c68 : PV → PV → Bool → (Bool → R) → R) (retF : Bool → R) (p1 : PV) (p2 : PV) (b3 : Bool) (n13 : Int) : f68_w1A k c36 c68 retF p1 p2 b3 n13 = f68_w1N k c36 c68 (fun y0 => retF y0) p1 p2 b3 n13 :=
  Eq.mp (by kernel_rfl) (loop_sim (E := (f68_E k c36 c68)) (c := f68_cw1) (K := (kont (f68_E k c36 c68) f68_code [1, 1, 1, 0, 1, 0, 1, 1, 1, 1, 1, 1, 1, 1, 1, 0, 1, 0, 1, 0] (endK (f68_E k c36 c68) Try.f68 [] f68_un retF))) (S := Int) (fun s => f68_hw1_0 p1 p2 b3 s) (f68_w1B k c36 c68 (fun y0 => retF y0) p1 p2 b3) (fun NX s => by
    exact Eq.mp (by kernel_rfl) (f68_w1b0_eq k c36 c68 retF NX p1 p2 b3 s)) k n13)

noncomputable def f68_cw2 : Code := subC f68_code [1, 1, 1, 0, 1, 0, 1, 1, 1, 1, 1, 1, 1, 1, 1, 0, 1, 0, 1, 0, 0]
noncomputable def f68_hw2_0 (p1 : PV) (p2 : PV) (b3 : Bool) (n25 : Int) : St := ⟨[.dead, .dead, .bool b3, .ptr 3 [], .ptr 4 [], .dead, .dead, .int .i64 n25, .dead, .dead, .dead, .dead, .dead, .dead, .dead, .dead, .dead, .dead, .dead, .dead, .dead, .dead, .dead, .dead, .dead, .dead, .dead, .dead, .dead, .dead, .dead, .dead, .dead, .dead, .dead, .dead, .dead, .dead, .dead, .dead, .dead, .dead, .dead, .dead, .dead, .dead, .dead, .dead, .dead, .dead, .dead, .dead, .dead, .dead, .dead, .dead, .dead, .dead, .dead, .dead, .dead, .dead, .dead, .dead, .dead, .dead, .dead, .dead, .dead, .dead, .dead, .dead, .dead, .dead, .dead, .dead, .dead, .dead, .dead, .dead, .dead, .dead, .dead, .dead, .dead, .dead, .dead, .dead, .dead, .dead, .dead, .dead, .dead, .dead, .dead, .dead, .dead, .dead, .dead, .dead, .dead, .dead, .dead, .dead, .dead, .dead, .dead, .dead, .dead, .dead, .dead, .dead, .dead, .dead, .dead, .dead, .dead, .dead, .dead, .dead, .dead, .dead, .dead, .dead, .dead, .dead, .dead, .dead, .dead, .dead, .dead, .dead, .dead, .dead, .dead, .dead, .dead, .dead, .dead, .dead, .dead, .dead, .dead, .dead, .dead, .dead, .dead, .dead, .dead, .dead, .dead, .dead, .dead, .dead, .dead, .dead, .dead, .dead, .dead, .dead, .dead, .dead, .dead, .dead, .dead, .dead, .dead, .dead, .dead, .dead, .dead, .dead, .dead, .dead, .dead, .dead, .dead, .dead, .dead, .dead, .dead, .dead, .dead], [(3, .box 53 (.val 53 p1)), (4, .box 57 (.val 57 p2))]⟩
noncomputable def f68_w2A (k : Nat) (c36 : PV → (PV → R) → R) (c68 : PV → PV → Bool → (Bool → R) → R) (retF : Bool → R) (p1 : PV) (p2 : PV) (b3 : Bool) (n25 : Int) : R := loopM (f68_E k c36 c68) f68_cw2 (kont (f68_E k c36 c68) f68_code [1, 1, 1, 0, 1, 0, 1, 1, 1, 1, 1, 1, 1, 1, 1, 0, 1, 0, 1, 0] (endK (f68_E k c36 c68) Try.f68 [] f68_un retF)) k (f68_hw2_0 p1 p2 b3 n25)
noncomputable def f68_w2b0 (c36 : PV → (PV → R) → R) (c68 : PV → PV → Bool → (Bool → R) → R) (ret0 : Bool → R) (next_w2_0 : Int → R) (p1 : PV) (p2 : PV) (b3 : Bool) (n25 : Int) : R :=
  bif (decide (n25 < (List.length (PV.els (PV.fld p2 2)) : Int))) then
    bif (true && decide ((0 : Int) ≤ (0 : Int)) && decide ((0 : Int) < (List.length (PV.els (PV.fld p1 3)) : Int))) then
      bif (true && decide ((0 : Int) ≤ n25) && decide (n25 < (List.length (PV.els (PV.fld p2 2)) : Int))) then
        c68 (List.getD (PV.els (PV.fld p1 3)) ((0 : Int)).toNat PV.nil) (List.getD (PV.els (PV.fld p2 2)) (n25).toNat PV.nil) b3 fun b26 =>
        bif ((!b26) == false) then
          bif (b3 == true) then
            bif (true && decide ((0 : Int) ≤ n25) && decide (n25 < (List.length (PV.els (PV.fld p2 2)) : Int))) then
              c36 (List.getD (PV.els (PV.fld p2 2)) (n25).toNat PV.nil) fun p27 =>
              bif (decide ((List.length (PV.els p27) : Int) = (0 : Int))) then
                ret0 false
              else next_w2_0 (IntKind.wrap .i64 (n25 + (1 : Int)))
            else none
          else next_w2_0 (IntKind.wrap .i64 (n25 + (1 : Int)))
        else ret0 false
      else none
    else none
  else ret0 true

theorem f68_w2b0_mem (k : Nat) (c36 : PV → (PV → R) → R) (c68 : PV → PV → Bool → (Bool → R) → R) (retF : Bool → R) (NX_w2 : St → R) (p1 : PV) (p2 : PV) (b3 : Bool) (n25 : Int) : exec (f68_E k c36 c68) f68_cw2 (purgeK (f68_E k c36 c68) f68_cw2 (loopK NX_w2 (kont (f68_E k c36 c68) f68_code [1, 1, 1, 0, 1, 0, 1, 1, 1, 1, 1, 1, 1, 1, 1, 0, 1, 0, 1, 0] (endK (f68_E k c36 c68) Try.f68 [] f68_un retF)))) (f68_hw2_0 p1 p2 b3 n25) = f68_w2b0 c36 c68 (fun y0 => retF y0) (fun n25 => NX_w2 (f68_hw2_0 p1 p2 b3 n25)) p1 p2 b3 n25 := by kernel_rfl

noncomputable def f68_w2b0N (k : Nat) (c36 : PV → (PV → R) → R) (c68 : PV → PV → Bool → (Bool → R) → R) (ret0 : Bool → R) (next_w2_0 : Int → R) (p1 : PV) (p2 : PV) (b3 : Bool) (n25 : Int) : R :=
  f68_w2b0 c36 c68 ret0 next_w2_0 p1 p2 b3 n25
theorem f68_w2b0_eq (k : Nat) (c36 : PV → (PV → R) → R) (c68 : PV → PV → Bool → (Bool → R) → R) (retF : Bool → R) (NX_w2 : St → R) (p1 : PV) (p2 : PV) (b3 : Bool) (n25 : Int) : exec (f68_E k c36 c68) f68_cw2 (purgeK (f68_E k c36 c68) f68_cw2 (loopK NX_w2 (kont (f68_E k c36 c68) f68_code [1, 1, 1, 0, 1, 0, 1, 1, 1, 1, 1, 1, 1, 1, 1, 0, 1, 0, 1, 0] (endK (f68_E k c36 c68) Try.f68 [] f68_un retF)))) (f68_hw2_0 p1 p2 b3 n25) = f68_w2b0N k c36 c68 (fun y0 => retF y0) (fun n25 => NX_w2 (f68_hw2_0 p1 p2 b3 n25)) p1 p2 b3 n25 :=
  (f68_w2b0_mem k c36 c68 retF NX_w2 p1 p2 b3 n25)

noncomputable def f68_w2B (k : Nat) (c36 : PV → (PV → R) → R) (c68 : PV → PV → Bool → (Bool → R) → R) (ret0 : Bool → R) (p1 : PV) (p2 : PV) (b3 : Bool) (nx : Int → R) : Int → R := (fun s => f68_w2b0N k c36 c68 ret0 (fun n25 => nx n25) p1 p2 b3 s)
noncomputable def f68_w2N (k : Nat) (c36 : PV → (PV → R) → R) (c68 : PV → PV → Bool → (Bool → R) → R) (ret0 : Bool → R) (p1 : PV) (p2 : PV) (b3 : Bool) (n25 : Int) : R := loopR (f68_w2B k c36 c68 ret0 p1 p2 b3) k n25
theorem f68_w2_eq (k : Nat) (c36 : PV → (PV → R) → R) (c68 : PV → PV → Bool → (Bool → R) → R) (retF : Bool → R) (p1 : PV) (p2 : PV) (b3 : Bool) (n25 : Int) : f68_w2A k c36 c68 retF p1 p2 b3 n25 = f68_w2N k c36 c68 (fun y0 => retF y0) p1 p2 b3 n25 :=
  Eq.mp (by kernel_rfl) (loop_sim (E := (f68_E k c36 c68)) (c := f68_cw2) (K := (kont (f68_E k c36 c68) f68_code [1, 1, 1, 0, 1, 0, 1, 1, 1, 1, 1, 1, 1, 1, 1, 0, 1, 0, 1, 0] (endK (f68_E k c36 c68) Try.f68 [] f68_un retF))) (S := Int) (fun s => f68_hw2_0 p1 p2 b3 s) (f68_w2B k c36 c68 (fun y0 => retF y0) p1 p2 b3) (fun NX s => by
    exact Eq.mp (by kernel_rfl) (f68_w2b0_eq k c36 c68 retF NX p1 p2 b3 s)) k n25)

noncomputable def f68_e (c36 : PV → (PV → R) → R) (c68 : PV → PV → Bool → (Bool → R) → R) (ret0 : Bool → R) (w1 : Int → R) (w2 : Int → R) (p1 : PV) (p2 : PV) (b3 : Bool) : R :=
  bif (decide ((PV.num (PV.fld p1 0)) = (7 : Int))) then
    bif (true && decide ((0 : Int) ≤ (0 : Int)) && decide ((0 : Int) < (List.length (PV.els (PV.fld p1 3)) : Int))) then
      c68 (List.getD (PV.els (PV.fld p1 3)) ((0 : Int)).toNat PV.nil) p2 b3 fun b4 =>
      ret0 b4
    else none
  else bif ((!(decide ((PV.num (PV.fld p2 0)) = (2 : Int)))) == true) then
    bif (!(decide ((PV.num (PV.fld p2 1)) = (0 : Int)))) then
      ret0 false
    else bif (decide ((PV.num (PV.fld p1 0)) = (1 : Int))) then
      bif ((decide ((PV.num (PV.fld p2 0)) = (1 : Int))) == true) then
        ret0 (decide ((List.length (PV.els (PV.fld p2 2)) : Int) = (0 : Int)))
      else ret0 false
    else bif (decide ((PV.num (PV.fld p1 0)) = (2 : Int))) then
      bif ((decide ((PV.num (PV.fld p2 0)) = (2 : Int))) == true) then
        bif ((decide ((List.length (PV.els (PV.fld p2 2)) : Int) = (0 : Int))) == true) then
          bif (true && decide ((0 : Int) ≤ (PV.num (PV.fld p2 1))) && decide ((PV.num (PV.fld p2 1)) < 256)) then
            ret0 (PV.tt (PV.fld (PV.fld p1 1) ((PV.num (PV.fld p2 1))).toNat))
          else none
        else ret0 false
      else ret0 false
    else bif (decide ((PV.num (PV.fld p1 0)) = (3 : Int))) then
      bif ((decide ((PV.num (PV.fld p2 0)) = (3 : Int))) == true) then
        bif ((decide ((List.length (PV.els (PV.fld p2 2)) : Int) = (2 : Int))) == true) then
          bif (true && decide ((0 : Int) ≤ (0 : Int)) && decide ((0 : Int) < (List.length (PV.els (PV.fld p1 3)) : Int))) then
            bif (true && decide ((0 : Int) ≤ (0 : Int)) && decide ((0 : Int) < (List.length (PV.els (PV.fld p2 2)) : Int))) then
              c68 (List.getD (PV.els (PV.fld p1 3)) ((0 : Int)).toNat PV.nil) (List.getD (PV.els (PV.fld p2 2)) ((0 : Int)).toNat PV.nil) b3 fun b5 =>
              bif (b5 == true) then
                bif (true && decide ((0 : Int) ≤ (1 : Int)) && decide ((1 : Int) < (List.length (PV.els (PV.fld p1 3)) : Int))) then
                  bif (true && decide ((0 : Int) ≤ (1 : Int)) && decide ((1 : Int) < (List.length (PV.els (PV.fld p2 2)) : Int))) then
                    c68 (List.getD (PV.els (PV.fld p1 3)) ((1 : Int)).toNat PV.nil) (List.getD (PV.els (PV.fld p2 2)) ((1 : Int)).toNat PV.nil) b3 fun b6 =>
                    ret0 b6
                  else none
                else none
              else ret0 false
            else none
          else none
        else ret0 false
      else ret0 false
    else bif (decide ((PV.num (PV.fld p1 0)) = (4 : Int))) then
      bif ((decide ((PV.num (PV.fld p2 0)) = (4 : Int))) == false) then
        bif ((decide ((PV.num (PV.fld p2 0)) = (5 : Int))) == true) then
          bif ((decide ((List.length (PV.els (PV.fld p2 2)) : Int) = (1 : Int))) == true) then
            bif (true && decide ((0 : Int) ≤ (IntKind.wrap .i64 ((PV.num (PV.fld p2 0)) - (4 : Int)))) && decide ((IntKind.wrap .i64 ((PV.num (PV.fld p2 0)) - (4 : Int))) < (List.length (PV.els (PV.fld p1 3)) : Int))) then
              let p7 : PV := (List.getD (PV.els (PV.fld p1 3)) ((IntKind.wrap .i64 ((PV.num (PV.fld p2 0)) - (4 : Int)))).toNat PV.nil)
              bif (true && decide ((0 : Int) ≤ (0 : Int)) && decide ((0 : Int) < (List.length (PV.els (PV.fld p2 2)) : Int))) then
                c68 p7 (List.getD (PV.els (PV.fld p2 2)) ((0 : Int)).toNat PV.nil) b3 fun b8 =>
                ret0 b8
              else none
            else none
          else ret0 false
        else ret0 false
      else bif ((decide ((List.length (PV.els (PV.fld p2 2)) : Int) = (1 : Int))) == true) then
        bif (true && decide ((0 : Int) ≤ (IntKind.wrap .i64 ((PV.num (PV.fld p2 0)) - (4 : Int)))) && decide ((IntKind.wrap .i64 ((PV.num (PV.fld p2 0)) - (4 : Int))) < (List.length (PV.els (PV.fld p1 3)) : Int))) then
          let p9 : PV := (List.getD (PV.els (PV.fld p1 3)) ((IntKind.wrap .i64 ((PV.num (PV.fld p2 0)) - (4 : Int)))).toNat PV.nil)
          bif (true && decide ((0 : Int) ≤ (0 : Int)) && decide ((0 : Int) < (List.length (PV.els (PV.fld p2 2)) : Int))) then
            c68 p9 (List.getD (PV.els (PV.fld p2 2)) ((0 : Int)).toNat PV.nil) b3 fun b10 =>
            ret0 b10
          else none
        else none
      else ret0 false
    else bif (decide ((PV.num (PV.fld p1 0)) = (5 : Int))) then
      bif (!(decide ((PV.num (PV.fld p2 0)) = (6 : Int)))) then
        ret0 false
      else w1 0
    else bif (decide ((PV.num (PV.fld p1 0)) = (6 : Int))) then
      bif ((decide ((PV.num (PV.fld p2 0)) = (7 : Int))) == true) then
        bif ((decide ((List.length (PV.els (PV.fld p2 2)) : Int) = (1 : Int))) == true) then
          bif (true && decide ((0 : Int) ≤ (0 : Int)) && decide ((0 : Int) < (List.length (PV.els (PV.fld p1 3)) : Int))) then
            bif (true && decide ((0 : Int) ≤ (0 : Int)) && decide ((0 : Int) < (List.length (PV.els (PV.fld p2 2)) : Int))) then
              c68 (List.getD (PV.els (PV.fld p1 3)) ((0 : Int)).toNat PV.nil) (List.getD (PV.els (PV.fld p2 2)) ((0 : Int)).toNat PV.nil) b3 fun b16 =>
              ret0 b16
            else none
          else none
        else ret0 false
      else ret0 false
    else ret0 false
  else bif (decide ((PV.num (PV.fld p1 0)) = (1 : Int))) then
    bif ((decide ((PV.num (PV.fld p2 0)) = (1 : Int))) == true) then
      ret0 (decide ((List.length (PV.els (PV.fld p2 2)) : Int) = (0 : Int)))
    else ret0 false
  else bif (decide ((PV.num (PV.fld p1 0)) = (2 : Int))) then
    bif ((decide ((PV.num (PV.fld p2 0)) = (2 : Int))) == true) then
      bif ((decide ((List.length (PV.els (PV.fld p2 2)) : Int) = (0 : Int))) == true) then
        bif (true && decide ((0 : Int) ≤ (PV.num (PV.fld p2 1))) && decide ((PV.num (PV.fld p2 1)) < 256)) then
          ret0 (PV.tt (PV.fld (PV.fld p1 1) ((PV.num (PV.fld p2 1))).toNat))
        else none
      else ret0 false
    else ret0 false
  else bif (decide ((PV.num (PV.fld p1 0)) = (3 : Int))) then
    bif ((decide ((PV.num (PV.fld p2 0)) = (3 : Int))) == true) then
      bif ((decide ((List.length (PV.els (PV.fld p2 2)) : Int) = (2 : Int))) == true) then
        bif (true && decide ((0 : Int) ≤ (0 : Int)) && decide ((0 : Int) < (List.length (PV.els (PV.fld p1 3)) : Int))) then
          bif (true && decide ((0 : Int) ≤ (0 : Int)) && decide ((0 : Int) < (List.length (PV.els (PV.fld p2 2)) : Int))) then
            c68 (List.getD (PV.els (PV.fld p1 3)) ((0 : Int)).toNat PV.nil) (List.getD (PV.els (PV.fld p2 2)) ((0 : Int)).toNat PV.nil) b3 fun b17 =>
            bif (b17 == true) then
              bif (true && decide ((0 : Int) ≤ (1 : Int)) && decide ((1 : Int) < (List.length (PV.els (PV.fld p1 3)) : Int))) then
                bif (true && decide ((0 : Int) ≤ (1 : Int)) && decide ((1 : Int) < (List.length (PV.els (PV.fld p2 2)) : Int))) then
                  c68 (List.getD (PV.els (PV.fld p1 3)) ((1 : Int)).toNat PV.nil) (List.getD (PV.els (PV.fld p2 2)) ((1 : Int)).toNat PV.nil) b3 fun b18 =>
                  ret0 b18
                else none
              else none
            else ret0 false
          else none
        else none
      else ret0 false
    else ret0 false
  else bif (decide ((PV.num (PV.fld p1 0)) = (4 : Int))) then
    bif ((decide ((PV.num (PV.fld p2 0)) = (4 : Int))) == false) then
      bif ((decide ((PV.num (PV.fld p2 0)) = (5 : Int))) == true) then
        bif ((decide ((List.length (PV.els (PV.fld p2 2)) : Int) = (1 : Int))) == true) then
          bif (true && decide ((0 : Int) ≤ (IntKind.wrap .i64 ((PV.num (PV.fld p2 0)) - (4 : Int)))) && decide ((IntKind.wrap .i64 ((PV.num (PV.fld p2 0)) - (4 : Int))) < (List.length (PV.els (PV.fld p1 3)) : Int))) then
            let p19 : PV := (List.getD (PV.els (PV.fld p1 3)) ((IntKind.wrap .i64 ((PV.num (PV.fld p2 0)) - (4 : Int)))).toNat PV.nil)
            bif (true && decide ((0 : Int) ≤ (0 : Int)) && decide ((0 : Int) < (List.length (PV.els (PV.fld p2 2)) : Int))) then
              c68 p19 (List.getD (PV.els (PV.fld p2 2)) ((0 : Int)).toNat PV.nil) b3 fun b20 =>
              ret0 b20
            else none
          else none
        else ret0 false
      else ret0 false
    else bif ((decide ((List.length (PV.els (PV.fld p2 2)) : Int) = (1 : Int))) == true) then
      bif (true && decide ((0 : Int) ≤ (IntKind.wrap .i64 ((PV.num (PV.fld p2 0)) - (4 : Int)))) && decide ((IntKind.wrap .i64 ((PV.num (PV.fld p2 0)) - (4 : Int))) < (List.length (PV.els (PV.fld p1 3)) : Int))) then
        let p21 : PV := (List.getD (PV.els (PV.fld p1 3)) ((IntKind.wrap .i64 ((PV.num (PV.fld p2 0)) - (4 : Int)))).toNat PV.nil)
        bif (true && decide ((0 : Int) ≤ (0 : Int)) && decide ((0 : Int) < (List.length (PV.els (PV.fld p2 2)) : Int))) then
          c68 p21 (List.getD (PV.els (PV.fld p2 2)) ((0 : Int)).toNat PV.nil) b3 fun b22 =>
          ret0 b22
        else none
      else none
    else ret0 false
  else bif (decide ((PV.num (PV.fld p1 0)) = (5 : Int))) then
    bif (!(decide ((PV.num (PV.fld p2 0)) = (6 : Int)))) then
      ret0 false
    else w2 0
  else bif (decide ((PV.num (PV.fld p1 0)) = (6 : Int))) then
    bif ((decide ((PV.num (PV.fld p2 0)) = (7 : Int))) == true) then
      bif ((decide ((List.length (PV.els (PV.fld p2 2)) : Int) = (1 : Int))) == true) then
        bif (true && decide ((0 : Int) ≤ (0 : Int)) && decide ((0 : Int) < (List.length (PV.els (PV.fld p1 3)) : Int))) then
          bif (true && decide ((0 : Int) ≤ (0 : Int)) && decide ((0 : Int) < (List.length (PV.els (PV.fld p2 2)) : Int))) then
            c68 (List.getD (PV.els (PV.fld p1 3)) ((0 : Int)).toNat PV.nil) (List.getD (PV.els (PV.fld p2 2)) ((0 : Int)).toNat PV.nil) b3 fun b28 =>
            ret0 b28
          else none
        else none
      else ret0 false
    else ret0 false
  else ret0 false

theorem f68_e_mem (k : Nat) (c36 : PV → (PV → R) → R) (c68 : PV → PV → Bool → (Bool → R) → R) (retF : Bool → R) (p1 : PV) (p2 : PV) (b3 : Bool) : exec (f68_E k c36 c68) f68_code (endK (f68_E k c36 c68) Try.f68 [] f68_un retF) ⟨[.val 53 p1, .val 57 p2, .bool b3, .undef, .undef, .undef, .undef, .undef, .undef, .undef, .undef, .undef, .undef, .undef, .undef, .undef, .undef, .undef, .undef, .undef, .undef, .undef, .undef, .undef, .undef, .undef, .undef, .undef, .undef, .undef, .undef, .undef, .undef, .undef, .undef, .undef, .undef, .undef, .undef, .undef, .undef, .undef, .undef, .undef, .undef, .undef, .undef, .undef, .undef, .undef, .undef, .undef, .undef, .undef, .undef, .undef, .undef, .undef, .undef, .undef, .undef, .undef, .undef, .undef, .undef, .undef, .undef, .undef, .undef, .undef, .undef, .undef, .undef, .undef, .undef, .undef, .undef, .undef, .undef, .undef, .undef, .undef, .undef, .undef, .undef, .undef, .undef, .undef, .undef, .undef, .undef, .undef, .undef, .undef, .undef, .undef, .undef, .undef, .undef, .undef, .undef, .undef, .undef, .undef, .undef, .undef, .undef, .undef, .undef, .undef, .undef, .undef, .undef, .undef, .undef, .undef, .undef, .undef, .undef, .undef, .undef, .undef, .undef, .undef, .undef, .undef, .undef, .undef, .undef, .undef, .undef, .undef, .undef, .undef, .undef, .undef, .undef, .undef, .undef, .undef, .undef, .undef, .undef, .undef, .undef, .undef, .undef, .undef, .undef, .undef, .undef, .undef, .undef, .undef, .undef, .undef, .undef, .undef, .undef, .undef, .undef, .undef, .undef, .undef, .undef, .undef, .undef, .undef, .undef, .undef, .undef, .undef, .undef, .undef, .undef, .undef, .undef, .undef, .undef, .undef, .undef, .undef, .undef], []⟩ = f68_e c36 c68 (fun y0 => retF y0) (fun n13 => f68_w1A k c36 c68 retF p1 p2 b3 n13) (fun n25 => f68_w2A k c36 c68 retF p1 p2 b3 n25) p1 p2 b3 := by kernel_rfl

noncomputable def f68_N (k : Nat) (c36 : PV → (PV → R) → R) (c68 : PV → PV → Bool → (Bool → R) → R) (ret0 : Bool → R) (p1 : PV) (p2 : PV) (b3 : Bool) : R :=
  f68_e c36 c68 ret0 (fun n13 => f68_w1N k c36 c68 ret0 p1 p2 b3 n13) (fun n25 => f68_w2N k c36 c68 ret0 p1 p2 b3 n25) p1 p2 b3
theorem f68_eq (k : Nat) (c36 : PV → (PV → R) → R) (c68 : PV → PV → Bool → (Bool → R) → R) (retF : Bool → R) (p1 : PV) (p2 : PV) (b3 : Bool) : exec (f68_E k c36 c68) f68_code (endK (f68_E k c36 c68) Try.f68 [] f68_un retF) ⟨[.val 53 p1, .val 57 p2, .bool b3, .undef, .undef, .undef, .undef, .undef, .undef, .undef, .undef, .undef, .undef, .undef, .undef, .undef, .undef, .undef, .undef, .undef, .undef, .undef, .undef, .undef, .undef, .undef, .undef, .undef, .undef, .undef, .undef, .undef, .undef, .undef, .undef, .undef, .undef, .undef, .undef, .undef, .undef, .undef, .undef, .undef, .undef, .undef, .undef, .undef, .undef, .undef, .undef, .undef, .undef, .undef, .undef, .undef, .undef, .undef, .undef, .undef, .undef, .undef, .undef, .undef, .undef, .undef, .undef, .undef, .undef, .undef, .undef, .undef, .undef, .undef, .undef, .undef, .undef, .undef, .undef, .undef, .undef, .undef, .undef, .undef, .undef, .undef, .undef, .undef, .undef, .undef, .undef, .undef, .undef, .undef, .undef, .undef, .undef, .undef, .undef, .undef, .undef, .undef, .undef, .undef, .undef, .undef, .undef, .undef, .undef, .undef, .undef, .undef, .undef, .undef, .undef, .undef, .undef, .undef, .undef, .undef, .undef, .undef, .undef, .undef, .undef, .undef, .undef, .undef, .undef, .undef, .undef, .undef, .undef, .undef, .undef, .undef, .undef, .undef, .undef, .undef, .undef, .undef, .undef, .undef, .undef, .undef, .undef, .undef, .undef, .undef, .undef, .undef, .undef, .undef, .undef, .undef, .undef, .undef, .undef, .undef, .undef, .undef, .undef, .undef, .undef, .undef, .undef, .undef, .undef, .undef, .undef, .undef, .undef, .undef, .undef, .undef, .undef, .undef, .undef, .undef, .undef, .undef, .undef], []⟩ = f68_N k c36 c68 (fun y0 => retF y0) p1 p2 b3 :=
  (f68_e_mem k c36 c68 retF p1 p2 b3).trans (by rw [show (fun n13 => f68_w1A k c36 c68 retF p1 p2 b3 n13) = (fun n13 => f68_w1N k c36 c68 (fun y0 => retF y0) p1 p2 b3 n13) from funext fun n13 => f68_w1_eq k c36 c68 retF p1 p2 b3 n13, show (fun n25 => f68_w2A k c36 c68 retF p1 p2 b3 n25) = (fun n25 => f68_w2N k c36 c68 (fun y0 => retF y0) p1 p2 b3 n25) from funext fun n25 => f68_w2_eq k c36 c68 retF p1 p2 b3 n25]; rfl)

noncomputable def G68 : Nat → PV → PV → Bool → (Bool → R) → R
  | 0, _, _, _, _ => none
  | k + 1, p1, p2, b3, ret0 => f68_N k (G36 k) (G68 k) ret0 p1 p2 b3
theorem S68 : ∀ k, Snd Try.prog 68 f68_I f68_O (fun x ret => G68 k x.1 x.2.1 x.2.2 (fun y0 => ret y0))
  | 0 => snd_none
  | k + 1 => snd_step (E := f68_E k (G36 k) (G68 k)) rfl laidOut noNums (orc_ok (S36 k).o f36_D_ok (orc_ok (S68 k).o f68_D_ok orc0_ok)) (f := 68) (fn := Try.f68) (code := f68_code) Try.func68 (by kernel_rfl) (drawsOk_of laidOut (orc_ok (S36 k).o f36_D_ok (orc_ok (S68 k).o f68_D_ok orc0_ok)) mixed (by kernel_rfl)) f68_un f68_un_ok [] (fun _ => rfl)
      (fun x ret => f68_eq k (G36 k) (G68 k) ret x.1 x.2.1 x.2.2)

/- catchpole/catchpoleref8.GoodValue -/
noncomputable def f34_I : PV × PV → List SV × Obs := fun x => ([.val 53 x.1, .val 57 x.2], [])
noncomputable def f34_D : List SV → Obs → Option (PV × PV)
  | [.val 53 p1, .val 57 p2], [] => some (p1, p2)
  | _, _ => none
theorem f34_D_ok (args : List SV) (B : Obs) (x : PV × PV) (h : f34_D args B = some x) : f34_I x = (args, B) := by
  unfold f34_D at h
  split at h
  · injection h with h; subst h; rfl
  · cases h
noncomputable def f34_O : Bool → Out := (fun y => ([.bool y], []))
noncomputable def f34_un : Out → Option (Bool)
  | ([.bool y0], []) => some y0
  | _ => none
theorem f34_un_ok (o : Out) (y : Bool) (h : f34_un o = some y) : o = f34_O y := by
  unfold f34_un at h
  split at h
  · injection h with h; subst h; rfl
  · cases h
noncomputable def f34_msk : Nat → Option (List Nat) := fun key =>  none
noncomputable def f34_C (c67 : PV → (Bool → R) → R) (c68 : PV → PV → Bool → (Bool → R) → R) : Oracle := orc 67 f67_D f67_O (fun x ret => c67 x (fun y0 => ret y0)) <| orc 68 f68_D f68_O (fun x ret => c68 x.1 x.2.1 x.2.2 (fun y0 => ret y0)) <| orc0
noncomputable def f34_E (k : Nat) (c67 : PV → (Bool → R) → R) (c68 : PV → PV → Bool → (Bool → R) → R) : Env := { P := Try.prog, nilOwn := fun d => false, fldOwn := fun d i => false, ownPar := ownPars, ownRet := false, mask := f34_msk, fuel := k, C := f34_C c67 c68 }
noncomputable def f34_code : Code := Try.f34.body.getD .skip
noncomputable def f34_e (c67 : PV → (Bool → R) → R) (c68 : PV → PV → Bool → (Bool → R) → R) (ret0 : Bool → R) (p1 : PV) (p2 : PV) : R :=
  c67 p1 fun b3 =>
  bif (b3 == true) then
    c68 p1 p2 false fun b4 =>
    ret0 b4
  else ret0 false

theorem f34_e_mem (k : Nat) (c67 : PV → (Bool → R) → R) (c68 : PV → PV → Bool → (Bool → R) → R) (retF : Bool → R) (p1 : PV) (p2 : PV) : exec (f34_E k c67 c68) f34_code (endK (f34_E k c67 c68) Try.f34 [] f34_un retF) ⟨[.val 53 p1, .val 57 p2, .undef, .undef, .undef, .undef, .undef, .undef, .undef, .undef, .undef, .undef], []⟩ = f34_e c67 c68 (fun y0 => retF y0) p1 p2 := by kernel_rfl

noncomputable def f34_N (k : Nat) (c67 : PV → (Bool → R) → R) (c68 : PV → PV → Bool → (Bool → R) → R) (ret0 : Bool → R) (p1 : PV) (p2 : PV) : R :=
  f34_e c67 c68 ret0 p1 p2
theorem f34_eq (k : Nat) (c67 : PV → (Bool → R) → R) (c68 : PV → PV → Bool → (Bool → R) → R) (retF : Bool → R) (p1 : PV) (p2 : PV) : exec (f34_E k c67 c68) f34_code (endK (f34_E k c67 c68) Try.f34 [] f34_un retF) ⟨[.val 53 p1, .val 57 p2, .undef, .undef, .undef, .undef, .undef, .undef, .undef, .undef, .undef, .undef], []⟩ = f34_N k c67 c68 (fun y0 => retF y0) p1 p2 :=
  (f34_e_mem k c67 c68 retF p1 p2)

noncomputable def G34 : Nat → PV → PV → (Bool → R) → R
  | 0, _, _, _ => none
  | k + 1, p1, p2, ret0 => f34_N k (G67 k) (G68 k) ret0 p1 p2
theorem S34 : ∀ k, Snd Try.prog 34 f34_I f34_O (fun x ret => G34 k x.1 x.2 (fun y0 => ret y0))
  | 0 => snd_none
  | k + 1 => snd_step (E := f34_E k (G67 k) (G68 k)) rfl laidOut noNums (orc_ok (S67 k).o f67_D_ok (orc_ok (S68 k).o f68_D_ok orc0_ok)) (f := 34) (fn := Try.f34) (code := f34_code) Try.func34 (by kernel_rfl) (drawsOk_of laidOut (orc_ok (S67 k).o f67_D_ok (orc_ok (S68 k).o f68_D_ok orc0_ok)) mixed (by kernel_rfl)) f34_un f34_un_ok [] (fun _ => rfl)
      (fun x ret => f34_eq k (G67 k) (G68 k) ret x.1 x.2)

/- catchpole/value.full -/
noncomputable def f65_I : PV → List SV × Obs := fun x => ([.val 30 x], [])
noncomputable def f65_D : List SV → Obs → Option (PV)
  | [.val 30 p1], [] => some p1
  | _, _ => none
theorem f65_D_ok (args : List SV) (B : Obs) (x : PV) (h : f65_D args B = some x) : f65_I x = (args, B) := by
  unfold f65_D at h
  split at h
  · injection h with h; subst h; rfl
  · cases h
noncomputable def f65_O : Bool → Out := (fun y => ([.bool y], []))
noncomputable def f65_un : Out → Option (Bool)
  | ([.bool y0], []) => some y0
  | _ => none
theorem f65_un_ok (o : Out) (y : Bool) (h : f65_un o = some y) : o = f65_O y := by
  unfold f65_un at h
  split at h
  · injection h with h; subst h; rfl
  · cases h
noncomputable def f65_msk : Nat → Option (List Nat) := fun key => bif key == 6 then some [1, 6, 7, 8] else none
noncomputable def f65_C (c23 : PV → (Int → R) → R) (c65 : PV → (Bool → R) → R) : Oracle := orc 23 f23_D f23_O (fun x ret => c23 x (fun y0 => ret y0)) <| orc 65 f65_D f65_O (fun x ret => c65 x (fun y0 => ret y0)) <| orc0
noncomputable def f65_E (k : Nat) (c23 : PV → (Int → R) → R) (c65 : PV → (Bool → R) → R) : Env := { P := Try.prog, nilOwn := fun d => false, fldOwn := fun d i => false, ownPar := ownPars, ownRet := false, mask := f65_msk, fuel := k, C := f65_C c23 c65 }
noncomputable def f65_code : Code := Try.f65.body.getD .skip
noncomputable def f65_cw1 : Code := subC f65_code [1, 0, 1, 0, 0]
noncomputable def f65_hw1_0 (p1 : PV) (n5 : Int) : St := ⟨[.dead, .ptr 1 [], .dead, .dead, .dead, .dead, .val 28 (PV.fld p1 2), .int .i64 (List.length (PV.els (PV.fld p1 2)) : Int), .int .i64 n5, .dead, .dead, .dead, .dead, .dead, .dead, .dead, .dead, .dead, .dead, .dead, .dead, .dead, .dead, .dead, .dead, .dead], [(1, .box 30 (.val 30 p1))]⟩
noncomputable def f65_w1A (k : Nat) (c23 : PV → (Int → R) → R) (c65 : PV → (Bool → R) → R) (retF : Bool → R) (p1 : PV) (n5 : Int) : R := loopM (f65_E k c23 c65) f65_cw1 (kont (f65_E k c23 c65) f65_code [1, 0, 1, 0] (endK (f65_E k c23 c65) Try.f65 [] f65_un retF)) k (f65_hw1_0 p1 n5)
noncomputable def f65_w1b0 (c23 : PV → (Int → R) → R) (c65 : PV → (Bool → R) → R) (ret0 : Bool → R) (next_w1_0 : Int → R) (p1 : PV) (n5 : Int) : R :=
  bif (decide (n5 < (List.length (PV.els (PV.fld p1 2)) : Int))) then
    bif (true && decide ((0 : Int) ≤ n5) && decide (n5 < (List.length (PV.els (PV.fld p1 2)) : Int))) then
      bif ((decide ((PV.num (PV.fld p1 0)) = (6 : Int))) == true) then
        c23 (List.getD (PV.els (PV.fld p1 2)) (n5).toNat PV.nil) fun n6 =>
        bif ((decide (n6 = (0 : Int))) == false) then
          c65 (List.getD (PV.els (PV.fld p1 2)) (n5).toNat PV.nil) fun b7 =>
          bif (!b7) then
            ret0 false
          else next_w1_0 (IntKind.wrap .i64 (n5 + (1 : Int)))
        else ret0 false
      else c65 (List.getD (PV.els (PV.fld p1 2)) (n5).toNat PV.nil) fun b8 =>
      bif (!b8) then
        ret0 false
      else next_w1_0 (IntKind.wrap .i64 (n5 + (1 : Int)))
    else none
  else ret0 true

theorem f65_w1b0_mem (k : Nat) (c23 : PV → (Int → R) → R) (c65 : PV → (Bool → R) → R) (retF : Bool → R) (NX_w1 : St → R) (p1 : PV) (n5 : Int) : exec (f65_E k c23 c65) f65_cw1 (purgeK (f65_E k c23 c65) f65_cw1 (loopK NX_w1 (kont (f65_E k c23 c65) f65_code [1, 0, 1, 0] (endK (f65_E k c23 c65) Try.f65 [] f65_un retF)))) (f65_hw1_0 p1 n5) = f65_w1b0 c23 c65 (fun y0 => retF y0) (fun n5 => NX_w1 (f65_hw1_0 p1 n5)) p1 n5 := by kernel_rfl

noncomputable def f65_w1b0N (k : Nat) (c23 : PV → (Int → R) → R) (c65 : PV → (Bool → R) → R) (ret0 : Bool → R) (next_w1_0 : Int → R) (p1 : PV) (n5 : Int) : R :=
  f65_w1b0 c23 c65 ret0 next_w1_0 p1 n5
theorem f65_w1b0_eq (k : Nat) (c23 : PV → (Int → R) → R) (c65 : PV → (Bool → R) → R) (retF : Bool → R) (NX_w1 : St → R) (p1 : PV) (n5 : Int) : exec (f65_E k c23 c65) f65_cw1 (purgeK (f65_E k c23 c65) f65_cw1 (loopK NX_w1 (kont (f65_E k c23 c65) f65_code [1, 0, 1, 0] (endK (f65_E k c23 c65) Try.f65 [] f65_un retF)))) (f65_hw1_0 p1 n5) = f65_w1b0N k c23 c65 (fun y0 => retF y0) (fun n5 => NX_w1 (f65_hw1_0 p1 n5)) p1 n5 :=
  (f65_w1b0_mem k c23 c65 retF NX_w1 p1 n5)

noncomputable def f65_w1B (k : Nat) (c23 : PV → (Int → R) → R) (c65 : PV → (Bool → R) → R) (ret0 : Bool → R) (p1 : PV) (nx : Int → R) : Int → R := (fun s => f65_w1b0N k c23 c65 ret0 (fun n5 => nx n5) p1 s)
noncomputable def f65_w1N (k : Nat) (c23 : PV → (Int → R) → R) (c65 : PV → (Bool → R) → R) (ret0 : Bool → R) (p1 : PV) (n5 : Int) : R := loopR (f65_w1B k c23 c65 ret0 p1) k n5
theorem f65_w1_eq (k : Nat) (c23 : PV → (Int → R) → R) (c65 : PV → (Bool → R) → R) (retF : Bool → R) (p1 : PV) (n5 : Int) : f65_w1A k c23 c65 retF p1 n5 = f65_w1N k c23 c65 (fun y0 => retF y0) p1 n5 :=
  Eq.mp (by kernel_rfl) (loop_sim (E := (f65_E k c23 c65)) (c := f65_cw1) (K := (kont (f65_E k c23 c65) f65_code [1, 0, 1, 0] (endK (f65_E k c23 c65) Try.f65 [] f65_un retF))) (S := Int) (fun s => f65_hw1_0 p1 s) (f65_w1B k c23 c65 (fun y0 => retF y0) p1) (fun NX s => by
    exact Eq.mp (by kernel_rfl) (f65_w1b0_eq k c23 c65 retF NX p1 s)) k n5)

noncomputable def f65_e (c23 : PV → (Int → R) → R) (c65 : PV → (Bool → R) → R) (ret0 : Bool → R) (w1 : Int → R) (p1 : PV) : R :=
  w1 0

theorem f65_e_mem (k : Nat) (c23 : PV → (Int → R) → R) (c65 : PV → (Bool → R) → R) (retF : Bool → R) (p1 : PV) : exec (f65_E k c23 c65) f65_code (endK (f65_E k c23 c65) Try.f65 [] f65_un retF) ⟨[.val 30 p1, .undef, .undef, .undef, .undef, .undef, .undef, .undef, .undef, .undef, .undef, .undef, .undef, .undef, .undef, .undef, .undef, .undef, .undef, .undef, .undef, .undef, .undef, .undef, .undef, .undef], []⟩ = f65_e c23 c65 (fun y0 => retF y0) (fun n5 => f65_w1A k c23 c65 retF p1 n5) p1 := by kernel_rfl

noncomputable def f65_N (k : Nat) (c23 : PV → (Int → R) → R) (c65 : PV → (Bool → R) → R) (ret0 : Bool → R) (p1 : PV) : R :=
  f65_e c23 c65 ret0 (fun n5 => f65_w1N k c23 c65 ret0 p1 n5) p1
theorem f65_eq (k : Nat) (c23 : PV → (Int → R) → R) (c65 : PV → (Bool → R) → R) (retF : Bool → R) (p1 : PV) : exec (f65_E k c23 c65) f65_code (endK (f65_E k c23 c65) Try.f65 [] f65_un retF) ⟨[.val 30 p1, .undef, .undef, .undef, .undef, .undef, .undef, .undef, .undef, .undef, .undef, .undef, .undef, .undef, .undef, .undef, .undef, .undef, .undef, .undef, .undef, .undef, .undef, .undef, .undef, .undef], []⟩ = f65_N k c23 c65 (fun y0 => retF y0) p1 :=
  (f65_e_mem k c23 c65 retF p1).trans (by rw [show (fun n5 => f65_w1A k c23 c65 retF p1 n5) = (fun n5 => f65_w1N k c23 c65 (fun y0 => retF y0) p1 n5) from funext fun n5 => f65_w1_eq k c23 c65 retF p1 n5]; rfl)

noncomputable def G65 : Nat → PV → (Bool → R) → R
  | 0, _, _ => none
  | k + 1, p1, ret0 => f65_N k (G23 k) (G65 k) ret0 p1
theorem S65 : ∀ k, Snd Try.prog 65 f65_I f65_O (fun x ret => G65 k x (fun y0 => ret y0))
  | 0 => snd_none
  | k + 1 => snd_step (E := f65_E k (G23 k) (G65 k)) rfl laidOut noNums (orc_ok (S23 k).o f23_D_ok (orc_ok (S65 k).o f65_D_ok orc0_ok)) (f := 65) (fn := Try.f65) (code := f65_code) Try.func65 (by kernel_rfl) (drawsOk_of laidOut (orc_ok (S23 k).o f23_D_ok (orc_ok (S65 k).o f65_D_ok orc0_ok)) mixed (by kernel_rfl)) f65_un f65_un_ok [] (fun _ => rfl)
      (fun x ret => f65_eq k (G23 k) (G65 k) ret x)

/- catchpole/value.Full -/
noncomputable def f31_I : PV × PV → List SV × Obs := fun x => ([.val 27 x.1, .val 30 x.2], [])
noncomputable def f31_D : List SV → Obs → Option (PV × PV)
  | [.val 27 p1, .val 30 p2], [] => some (p1, p2)
  | _, _ => none
theorem f31_D_ok (args : List SV) (B : Obs) (x : PV × PV) (h : f31_D args B = some x) : f31_I x = (args, B) := by
  unfold f31_D at h
  split at h
  · injection h with h; subst h; rfl
  · cases h
noncomputable def f31_O : Bool → Out := (fun y => ([.bool y], []))
noncomputable def f31_un : Out → Option (Bool)
  | ([.bool y0], []) => some y0
  | _ => none
theorem f31_un_ok (o : Out) (y : Bool) (h : f31_un o = some y) : o = f31_O y := by
  unfold f31_un at h
  split at h
  · injection h with h; subst h; rfl
  · cases h
noncomputable def f31_msk : Nat → Option (List Nat) := fun key =>  none
noncomputable def f31_C (c18 : PV → PV → (Bool → R) → R) (c65 : PV → (Bool → R) → R) : Oracle := orc 18 f18_D f18_O (fun x ret => c18 x.1 x.2 (fun y0 => ret y0)) <| orc 65 f65_D f65_O (fun x ret => c65 x (fun y0 => ret y0)) <| orc0
noncomputable def f31_E (k : Nat) (c18 : PV → PV → (Bool → R) → R) (c65 : PV → (Bool → R) → R) : Env := { P := Try.prog, nilOwn := fun d => false, fldOwn := fun d i => false, ownPar := ownPars, ownRet := false, mask := f31_msk, fuel := k, C := f31_C c18 c65 }
noncomputable def f31_code : Code := Try.f31.body.getD .skip
noncomputable def f31_e (c18 : PV → PV → (Bool → R) → R) (c65 : PV → (Bool → R) → R) (ret0 : Bool → R) (p1 : PV) (p2 : PV) : R :=
  c18 p1 p2 fun b3 =>
  bif (b3 == true) then
    c65 p2 fun b4 =>
    ret0 b4
  else ret0 false

theorem f31_e_mem (k : Nat) (c18 : PV → PV → (Bool → R) → R) (c65 : PV → (Bool → R) → R) (retF : Bool → R) (p1 : PV) (p2 : PV) : exec (f31_E k c18 c65) f31_code (endK (f31_E k c18 c65) Try.f31 [] f31_un retF) ⟨[.val 27 p1, .val 30 p2, .undef, .undef, .undef, .undef, .undef, .undef, .undef, .undef, .undef, .undef], []⟩ = f31_e c18 c65 (fun y0 => retF y0) p1 p2 := by kernel_rfl

noncomputable def f31_N (k : Nat) (c18 : PV → PV → (Bool → R) → R) (c65 : PV → (Bool → R) → R) (ret0 : Bool → R) (p1 : PV) (p2 : PV) : R :=
  f31_e c18 c65 ret0 p1 p2
theorem f31_eq (k : Nat) (c18 : PV → PV → (Bool → R) → R) (c65 : PV → (Bool → R) → R) (retF : Bool → R) (p1 : PV) (p2 : PV) : exec (f31_E k c18 c65) f31_code (endK (f31_E k c18 c65) Try.f31 [] f31_un retF) ⟨[.val 27 p1, .val 30 p2, .undef, .undef, .undef, .undef, .undef, .undef, .undef, .undef, .undef, .undef], []⟩ = f31_N k c18 c65 (fun y0 => retF y0) p1 p2 :=
  (f31_e_mem k c18 c65 retF p1 p2)

noncomputable def G31 : Nat → PV → PV → (Bool → R) → R
  | 0, _, _, _ => none
  | k + 1, p1, p2, ret0 => f31_N k (G18 k) (G65 k) ret0 p1 p2
theorem S31 : ∀ k, Snd Try.prog 31 f31_I f31_O (fun x ret => G31 k x.1 x.2 (fun y0 => ret y0))
  | 0 => snd_none
  | k + 1 => snd_step (E := f31_E k (G18 k) (G65 k)) rfl laidOut noNums (orc_ok (S18 k).o f18_D_ok (orc_ok (S65 k).o f65_D_ok orc0_ok)) (f := 31) (fn := Try.f31) (code := f31_code) Try.func31 (by kernel_rfl) (drawsOk_of laidOut (orc_ok (S18 k).o f18_D_ok (orc_ok (S65 k).o f65_D_ok orc0_ok)) mixed (by kernel_rfl)) f31_un f31_un_ok [] (fun _ => rfl)
      (fun x ret => f31_eq k (G18 k) (G65 k) ret x.1 x.2)

/- catchpole/catchpoleref8.Full -/
noncomputable def f35_I : PV × PV → List SV × Obs := fun x => ([.val 53 x.1, .val 57 x.2], [])
noncomputable def f35_D : List SV → Obs → Option (PV × PV)
  | [.val 53 p1, .val 57 p2], [] => some (p1, p2)
  | _, _ => none
theorem f35_D_ok (args : List SV) (B : Obs) (x : PV × PV) (h : f35_D args B = some x) : f35_I x = (args, B) := by
  unfold f35_D at h
  split at h
  · injection h with h; subst h; rfl
  · cases h
noncomputable def f35_O : Bool → Out := (fun y => ([.bool y], []))
noncomputable def f35_un : Out → Option (Bool)
  | ([.bool y0], []) => some y0
  | _ => none
theorem f35_un_ok (o : Out) (y : Bool) (h : f35_un o = some y) : o = f35_O y := by
  unfold f35_un at h
  split at h
  · injection h with h; subst h; rfl
  · cases h
noncomputable def f35_msk : Nat → Option (List Nat) := fun key =>  none
noncomputable def f35_C (c67 : PV → (Bool → R) → R) (c68 : PV → PV → Bool → (Bool → R) → R) : Oracle := orc 67 f67_D f67_O (fun x ret => c67 x (fun y0 => ret y0)) <| orc 68 f68_D f68_O (fun x ret => c68 x.1 x.2.1 x.2.2 (fun y0 => ret y0)) <| orc0
noncomputable def f35_E (k : Nat) (c67 : PV → (Bool → R) → R) (c68 : PV → PV → Bool → (Bool → R) → R) : Env := { P := Try.prog, nilOwn := fun d => false, fldOwn := fun d i => false, ownPar := ownPars, ownRet := false, mask := f35_msk, fuel := k, C := f35_C c67 c68 }
noncomputable def f35_code : Code := Try.f35.body.getD .skip
noncomputable def f35_e (c67 : PV → (Bool → R) → R) (c68 : PV → PV → Bool → (Bool → R) → R) (ret0 : Bool → R) (p1 : PV) (p2 : PV) : R :=
  c67 p1 fun b3 =>
  bif (b3 == true) then
    c68 p1 p2 true fun b4 =>
    ret0 b4
  else ret0 false

theorem f35_e_mem (k : Nat) (c67 : PV → (Bool → R) → R) (c68 : PV → PV → Bool → (Bool → R) → R) (retF : Bool → R) (p1 : PV) (p2 : PV) : exec (f35_E k c67 c68) f35_code (endK (f35_E k c67 c68) Try.f35 [] f35_un retF) ⟨[.val 53 p1, .val 57 p2, .undef, .undef, .undef, .undef, .undef, .undef, .undef, .undef, .undef, .undef], []⟩ = f35_e c67 c68 (fun y0 => retF y0) p1 p2 := by kernel_rfl

noncomputable def f35_N (k : Nat) (c67 : PV → (Bool → R) → R) (c68 : PV → PV → Bool → (Bool → R) → R) (ret0 : Bool → R) (p1 : PV) (p2 : PV) : R :=
  f35_e c67 c68 ret0 p1 p2
theorem f35_eq (k : Nat) (c67 : PV → (Bool → R) → R) (c68 : PV → PV → Bool → (Bool → R) → R) (retF : Bool → R) (p1 : PV) (p2 : PV) : exec (f35_E k c67 c68) f35_code (endK (f35_E k c67 c68) Try.f35 [] f35_un retF) ⟨[.val 53 p1, .val 57 p2, .undef, .undef, .undef, .undef, .undef, .undef, .undef, .undef, .undef, .undef], []⟩ = f35_N k c67 c68 (fun y0 => retF y0) p1 p2 :=
  (f35_e_mem k c67 c68 retF p1 p2)

noncomputable def G35 : Nat → PV → PV → (Bool → R) → R
  | 0, _, _, _ => none
  | k + 1, p1, p2, ret0 => f35_N k (G67 k) (G68 k) ret0 p1 p2
theorem S35 : ∀ k, Snd Try.prog 35 f35_I f35_O (fun x ret => G35 k x.1 x.2 (fun y0 => ret y0))
  | 0 => snd_none
  | k + 1 => snd_step (E := f35_E k (G67 k) (G68 k)) rfl laidOut noNums (orc_ok (S67 k).o f67_D_ok (orc_ok (S68 k).o f68_D_ok orc0_ok)) (f := 35) (fn := Try.f35) (code := f35_code) Try.func35 (by kernel_rfl) (drawsOk_of laidOut (orc_ok (S67 k).o f67_D_ok (orc_ok (S68 k).o f68_D_ok orc0_ok)) mixed (by kernel_rfl)) f35_un f35_un_ok [] (fun _ => rfl)
      (fun x ret => f35_eq k (G67 k) (G68 k) ret x.1 x.2)

/- catchpole/catchpoleref8.hex -/
noncomputable def f70_I : Int → List SV × Obs := fun x => ([.int .u8 x], [])
noncomputable def f70_D : List SV → Obs → Option (Int)
  | [.int .u8 n1], [] => some n1
  | _, _ => none
theorem f70_D_ok (args : List SV) (B : Obs) (x : Int) (h : f70_D args B = some x) : f70_I x = (args, B) := by
  unfold f70_D at h
  split at h
  · injection h with h; subst h; rfl
  · cases h
noncomputable def f70_O : (List Int) → Out := (fun y => ([.str y], []))
noncomputable def f70_un : Out → Option ((List Int))
  | ([.str y0], []) => some y0
  | _ => none
theorem f70_un_ok (o : Out) (y : (List Int)) (h : f70_un o = some y) : o = f70_O y := by
  unfold f70_un at h
  split at h
  · injection h with h; subst h; rfl
  · cases h
noncomputable def f70_msk : Nat → Option (List Nat) := fun key =>  none
noncomputable def f70_C : Oracle := orc0
noncomputable def f70_E (k : Nat) : Env := { P := Try.prog, nilOwn := fun d => false, fldOwn := fun d i => false, ownPar := ownPars, ownRet := false, mask := f70_msk, fuel := k, C := f70_C }
noncomputable def f70_code : Code := Try.f70.body.getD .skip
noncomputable def f70_e (ret0 : (List Int) → R) (n1 : Int) : R :=
  bif (decide ((0 : Int) ≤ (IntKind.wrap .u8 (Int.tdiv n1 16))) && decide ((IntKind.wrap .u8 (Int.tdiv n1 16)) ≤ (IntKind.wrap .u8 ((IntKind.wrap .u8 (Int.tdiv n1 16)) + (1 : Int)))) && decide ((IntKind.wrap .u8 ((IntKind.wrap .u8 (Int.tdiv n1 16)) + (1 : Int))) ≤ (List.length [48, 49, 50, 51, 52, 53, 54, 55, 56, 57, 97, 98, 99, 100, 101, 102] : Int))) then
    let s2 : List Int := (List.drop ((IntKind.wrap .u8 (Int.tdiv n1 16))).toNat (List.take ((IntKind.wrap .u8 ((IntKind.wrap .u8 (Int.tdiv n1 16)) + (1 : Int)))).toNat [48, 49, 50, 51, 52, 53, 54, 55, 56, 57, 97, 98, 99, 100, 101, 102]))
    bif (decide ((0 : Int) ≤ (Int.tmod n1 16)) && decide ((Int.tmod n1 16) ≤ (IntKind.wrap .u8 ((Int.tmod n1 16) + (1 : Int)))) && decide ((IntKind.wrap .u8 ((Int.tmod n1 16) + (1 : Int))) ≤ (List.length [48, 49, 50, 51, 52, 53, 54, 55, 56, 57, 97, 98, 99, 100, 101, 102] : Int))) then
      let s3 : List Int := (List.drop ((Int.tmod n1 16)).toNat (List.take ((IntKind.wrap .u8 ((Int.tmod n1 16) + (1 : Int)))).toNat [48, 49, 50, 51, 52, 53, 54, 55, 56, 57, 97, 98, 99, 100, 101, 102]))
      bif (decide (List.length s2 + List.length s3 ≤ 4611686018427387904)) then
        ret0 (s2 ++ s3)
      else none
    else none
  else none

theorem f70_e_mem (k : Nat) (retF : (List Int) → R) (n1 : Int) : exec (f70_E k) f70_code (endK (f70_E k) Try.f70 [] f70_un retF) ⟨[.int .u8 n1, .undef, .undef, .undef, .undef, .undef, .undef, .undef, .undef, .undef, .undef, .undef, .undef, .undef, .undef, .undef, .undef, .undef, .undef], []⟩ = f70_e (fun y0 => retF y0) n1 := by kernel_rfl

noncomputable def f70_N (k : Nat) (ret0 : (List Int) → R) (n1 : Int) : R :=
  f70_e ret0 n1
theorem f70_eq (k : Nat) (retF : (List Int) → R) (n1 : Int) : exec (f70_E k) f70_code (endK (f70_E k) Try.f70 [] f70_un retF) ⟨[.int .u8 n1, .undef, .undef, .undef, .undef, .undef, .undef, .undef, .undef, .undef, .undef, .undef, .undef, .undef, .undef, .undef, .undef, .undef, .undef], []⟩ = f70_N k (fun y0 => retF y0) n1 :=
  (f70_e_mem k retF n1)

noncomputable def G70 : Nat → Int → ((List Int) → R) → R
  | 0, _, _ => none
  | k + 1, n1, ret0 => f70_N k  ret0 n1
theorem S70 : ∀ k, Snd Try.prog 70 f70_I f70_O (fun x ret => G70 k x (fun y0 => ret y0))
  | 0 => snd_none
  | k + 1 => snd_step (E := f70_E k ) rfl laidOut noNums orc0_ok (f := 70) (fn := Try.f70) (code := f70_code) Try.func70 (by kernel_rfl) (drawsOk_of laidOut orc0_ok mixed (by kernel_rfl)) f70_un f70_un_ok [] (fun _ => rfl)
      (fun x ret => f70_eq k  ret x)

/- catchpole/catchpoleref8.ValueText -/
noncomputable def f37_I : PV → List SV × Obs := fun x => ([.val 57 x], [])
noncomputable def f37_D : List SV → Obs → Option (PV)
  | [.val 57 p1], [] => some p1
  | _, _ => none
theorem f37_D_ok (args : List SV) (B : Obs) (x : PV) (h : f37_D args B = some x) : f37_I x = (args, B) := by
  unfold f37_D at h
  split at h
  · injection h with h; subst h; rfl
  · cases h
noncomputable def f37_O : (List Int) → Out := (fun y => ([.str y], []))
noncomputable def f37_un : Out → Option ((List Int))
  | ([.str y0], []) => some y0
  | _ => none
theorem f37_un_ok (o : Out) (y : (List Int)) (h : f37_un o = some y) : o = f37_O y := by
  unfold f37_un at h
  split at h
  · injection h with h; subst h; rfl
  · cases h
noncomputable def f37_msk : Nat → Option (List Nat) := fun key => bif key == 12 then some [1, 3, 4, 5] else none
noncomputable def f37_C (c37 : PV → ((List Int) → R) → R) (c69 : PV → (PV → R) → R) (c70 : Int → ((List Int) → R) → R) : Oracle := orc 37 f37_D f37_O (fun x ret => c37 x (fun y0 => ret y0)) <| orc 69 f69_D f69_O (fun x ret => c69 x (fun y0 => ret y0)) <| orc 70 f70_D f70_O (fun x ret => c70 x (fun y0 => ret y0)) <| orc0
noncomputable def f37_E (k : Nat) (c37 : PV → ((List Int) → R) → R) (c69 : PV → (PV → R) → R) (c70 : Int → ((List Int) → R) → R) : Env := { P := Try.prog, nilOwn := fun d => false, fldOwn := fun d i => false, ownPar := ownPars, ownRet := false, mask := f37_msk, fuel := k, C := f37_C c37 c69 c70 }
noncomputable def f37_code : Code := Try.f37.body.getD .skip
noncomputable def f37_cw1 : Code := subC f37_code [1, 1, 1, 0, 1, 0, 0]
noncomputable def f37_hw1_0 (p1 : PV) (p2 : PV) (s5 : List Int) (n6 : Int) : St := ⟨[.dead, .ptr 1 [], .dead, .val 55 p2, .str s5, .int .i64 n6, .dead, .dead, .dead, .dead, .dead, .dead, .dead, .dead, .dead, .dead, .dead, .dead, .dead, .dead, .dead, .dead, .dead, .dead, .dead, .dead, .dead, .dead, .dead, .dead, .dead, .dead, .dead, .dead, .dead, .dead, .dead, .dead, .dead, .dead, .dead, .dead, .dead, .dead, .dead, .dead, .dead, .dead, .dead, .dead, .dead, .dead, .dead, .dead, .dead, .dead, .dead, .dead, .dead, .dead, .dead, .dead], [(1, .box 57 (.val 57 p1))]⟩
noncomputable def f37_w1A (k : Nat) (c37 : PV → ((List Int) → R) → R) (c69 : PV → (PV → R) → R) (c70 : Int → ((List Int) → R) → R) (retF : (List Int) → R) (p1 : PV) (p2 : PV) (s5 : List Int) (n6 : Int) : R := loopM (f37_E k c37 c69 c70) f37_cw1 (kont (f37_E k c37 c69 c70) f37_code [1, 1, 1, 0, 1, 0] (endK (f37_E k c37 c69 c70) Try.f37 [] f37_un retF)) k (f37_hw1_0 p1 p2 s5 n6)
noncomputable def f37_w1b0 (c37 : PV → ((List Int) → R) → R) (c69 : PV → (PV → R) → R) (c70 : Int → ((List Int) → R) → R) (ret0 : (List Int) → R) (next_w1_0 : (List Int) → Int → R) (p1 : PV) (p2 : PV) (s5 : List Int) (n6 : Int) : R :=
  bif (decide (n6 < (List.length (PV.els p2) : Int))) then
    bif (decide ((0 : Int) < n6)) then
      bif (decide (List.length s5 + List.length [44] ≤ 4611686018427387904)) then
        bif (true && decide ((0 : Int) ≤ n6) && decide (n6 < (List.length (PV.els p2) : Int))) then
          c37 (List.getD (PV.els p2) (n6).toNat PV.nil) fun s7 =>
          bif (decide (List.length (s5 ++ [44]) + List.length s7 ≤ 4611686018427387904)) then
            next_w1_0 ((s5 ++ [44]) ++ s7) (IntKind.wrap .i64 (n6 + (1 : Int)))
          else none
        else none
      else none
    else bif (true && decide ((0 : Int) ≤ n6) && decide (n6 < (List.length (PV.els p2) : Int))) then
      c37 (List.getD (PV.els p2) (n6).toNat PV.nil) fun s8 =>
      bif (decide (List.length s5 + List.length s8 ≤ 4611686018427387904)) then
        next_w1_0 (s5 ++ s8) (IntKind.wrap .i64 (n6 + (1 : Int)))
      else none
    else none
  else bif (decide ((PV.num (PV.fld p1 0)) = (1 : Int))) then
    ret0 [69]
  else bif (decide ((PV.num (PV.fld p1 0)) = (2 : Int))) then
    c70 (PV.num (PV.fld p1 1)) fun s9 =>
    ret0 s9
  else bif (decide ((PV.num (PV.fld p1 0)) = (3 : Int))) then
    bif (decide ((List.length (PV.els p2) : Int) < (2 : Int))) then
      bif (decide (List.length s5 + List.length [44] ≤ 4611686018427387904)) then
        bif (decide (List.length [40] + List.length (s5 ++ [44]) ≤ 4611686018427387904)) then
          bif (decide (List.length ([40] ++ (s5 ++ [44])) + List.length [41] ≤ 4611686018427387904)) then
            ret0 (([40] ++ (s5 ++ [44])) ++ [41])
          else none
        else none
      else none
    else bif (decide (List.length [40] + List.length s5 ≤ 4611686018427387904)) then
      bif (decide (List.length ([40] ++ s5) + List.length [41] ≤ 4611686018427387904)) then
        ret0 (([40] ++ s5) ++ [41])
      else none
    else none
  else bif (decide ((PV.num (PV.fld p1 0)) = (4 : Int))) then
    bif (decide (List.length [76] + List.length s5 ≤ 4611686018427387904)) then
      ret0 ([76] ++ s5)
    else none
  else bif (decide ((PV.num (PV.fld p1 0)) = (5 : Int))) then
    bif (decide (List.length [82] + List.length s5 ≤ 4611686018427387904)) then
      ret0 ([82] ++ s5)
    else none
  else bif (decide ((PV.num (PV.fld p1 0)) = (6 : Int))) then
    bif (decide (List.length [91] + List.length s5 ≤ 4611686018427387904)) then
      bif (decide (List.length ([91] ++ s5) + List.length [93] ≤ 4611686018427387904)) then
        ret0 (([91] ++ s5) ++ [93])
      else none
    else none
  else bif (decide ((PV.num (PV.fld p1 0)) = (7 : Int))) then
    bif (decide (List.length [60] + List.length s5 ≤ 4611686018427387904)) then
      bif (decide (List.length ([60] ++ s5) + List.length [62] ≤ 4611686018427387904)) then
        ret0 (([60] ++ s5) ++ [62])
      else none
    else none
  else ret0 [63]

theorem f37_w1b0_mem (k : Nat) (c37 : PV → ((List Int) → R) → R) (c69 : PV → (PV → R) → R) (c70 : Int → ((List Int) → R) → R) (retF : (List Int) → R) (NX_w1 : St → R) (p1 : PV) (p2 : PV) (s5 : List Int) (n6 : Int) : exec (f37_E k c37 c69 c70) f37_cw1 (purgeK (f37_E k c37 c69 c70) f37_cw1 (loopK NX_w1 (kont (f37_E k c37 c69 c70) f37_code [1, 1, 1, 0, 1, 0] (endK (f37_E k c37 c69 c70) Try.f37 [] f37_un retF)))) (f37_hw1_0 p1 p2 s5 n6) = f37_w1b0 c37 c69 c70 (fun y0 => retF y0) (fun s5 n6 => NX_w1 (f37_hw1_0 p1 p2 s5 n6)) p1 p2 s5 n6 := by kernel_rfl

noncomputable def f37_w1b0N (k : Nat) (c37 : PV → ((List Int) → R) → R) (c69 : PV → (PV → R) → R) (c70 : Int → ((List Int) → R) → R) (ret0 : (List Int) → R) (next_w1_0 : (List Int) → Int → R) (p1 : PV) (p2 : PV) (s5 : List Int) (n6 : Int) : R :=
  f37_w1b0 c37 c69 c70 ret0 next_w1_0 p1 p2 s5 n6
theorem f37_w1b0_eq (k : Nat) (c37 : PV → ((List Int) → R) → R) (c69 : PV → (PV → R) → R) (c70 : Int → ((List Int) → R) → R) (retF : (List Int) → R) (NX_w1 : St → R) (p1 : PV) (p2 : PV) (s5 : List Int) (n6 : Int) : exec (f37_E k c37 c69 c70) f37_cw1 (purgeK (f37_E k c37 c69 c70) f37_cw1 (loopK NX_w1 (kont (f37_E k c37 c69 c70) f37_code [1, 1, 1, 0, 1, 0] (endK (f37_E k c37 c69 c70) Try.f37 [] f37_un retF)))) (f37_hw1_0 p1 p2 s5 n6) = f37_w1b0N k c37 c69 c70 (fun y0 => retF y0) (fun s5 n6 => NX_w1 (f37_hw1_0 p1 p2 s5 n6)) p1 p2 s5 n6 :=
  (f37_w1b0_mem k c37 c69 c70 retF NX_w1 p1 p2 s5 n6)

noncomputable def f37_w1B (k : Nat) (c37 : PV → ((List Int) → R) → R) (c69 : PV → (PV → R) → R) (c70 : Int → ((List Int) → R) → R) (ret0 : (List Int) → R) (p1 : PV) (p2 : PV) (nx : (List Int) × Int → R) : (List Int) × Int → R := (fun s => f37_w1b0N k c37 c69 c70 ret0 (fun s5 n6 => nx (s5, n6)) p1 p2 s.1 s.2)
noncomputable def f37_w1N (k : Nat) (c37 : PV → ((List Int) → R) → R) (c69 : PV → (PV → R) → R) (c70 : Int → ((List Int) → R) → R) (ret0 : (List Int) → R) (p1 : PV) (p2 : PV) (s5 : List Int) (n6 : Int) : R := loopR (f37_w1B k c37 c69 c70 ret0 p1 p2) k (s5, n6)
theorem f37_w1_eq (k : Nat) (c37 : PV → ((List Int) → R) → R) (c69 : PV → (PV → R) → R) (c70 : Int → ((List Int) → R) → R) (retF : (List Int) → R) (p1 : PV) (p2 : PV) (s5 : List Int) (n6 : Int) : f37_w1A k c37 c69 c70 retF p1 p2 s5 n6 = f37_w1N k c37 c69 c70 (fun y0 => retF y0) p1 p2 s5 n6 :=
  Eq.mp (by kernel_rfl) (loop_sim (E := (f37_E k c37 c69 c70)) (c := f37_cw1) (K := (kont (f37_E k c37 c69 c70) f37_code [1, 1, 1, 0, 1, 0] (endK (f37_E k c37 c69 c70) Try.f37 [] f37_un retF))) (S := (List Int) × Int) (fun s => f37_hw1_0 p1 p2 s.1 s.2) (f37_w1B k c37 c69 c70 (fun y0 => retF y0) p1 p2) (fun NX s => by
    exact Eq.mp (by kernel_rfl) (f37_w1b0_eq k c37 c69 c70 retF NX p1 p2 s.1 s.2)) k (s5, n6))

noncomputable def f37_e (c37 : PV → ((List Int) → R) → R) (c69 : PV → (PV → R) → R) (c70 : Int → ((List Int) → R) → R) (ret0 : (List Int) → R) (w1 : PV → (List Int) → Int → R) (p1 : PV) : R :=
  c69 p1 fun p2 =>
  w1 p2 [] 0

theorem f37_e_mem (k : Nat) (c37 : PV → ((List Int) → R) → R) (c69 : PV → (PV → R) → R) (c70 : Int → ((List Int) → R) → R) (retF : (List Int) → R) (p1 : PV) : exec (f37_E k c37 c69 c70) f37_code (endK (f37_E k c37 c69 c70) Try.f37 [] f37_un retF) ⟨[.val 57 p1, .undef, .undef, .undef, .undef, .undef, .undef, .undef, .undef, .undef, .undef, .undef, .undef, .undef, .undef, .undef, .undef, .undef, .undef, .undef, .undef, .undef, .undef, .undef, .undef, .undef, .undef, .undef, .undef, .undef, .undef, .undef, .undef, .undef, .undef, .undef, .undef, .undef, .undef, .undef, .undef, .undef, .undef, .undef, .undef, .undef, .undef, .undef, .undef, .undef, .undef, .undef, .undef, .undef, .undef, .undef, .undef, .undef, .undef, .undef, .undef, .undef], []⟩ = f37_e c37 c69 c70 (fun y0 => retF y0) (fun p2 s5 n6 => f37_w1A k c37 c69 c70 retF p1 p2 s5 n6) p1 := by kernel_rfl

noncomputable def f37_N (k : Nat) (c37 : PV → ((List Int) → R) → R) (c69 : PV → (PV → R) → R) (c70 : Int → ((List Int) → R) → R) (ret0 : (List Int) → R) (p1 : PV) : R :=
  f37_e c37 c69 c70 ret0 (fun p2 s5 n6 => f37_w1N k c37 c69 c70 ret0 p1 p2 s5 n6) p1
theorem f37_eq (k : Nat) (c37 : PV → ((List Int) → R) → R) (c69 : PV → (PV → R) → R) (c70 : Int → ((List Int) → R) → R) (retF : (List Int) → R) (p1 : PV) : exec (f37_E k c37 c69 c70) f37_code (endK (f37_E k c37 c69 c70) Try.f37 [] f37_un retF) ⟨[.val 57 p1, .undef, .undef, .undef, .undef, .undef, .undef, .undef, .undef, .undef, .undef, .undef, .undef, .undef, .undef, .undef, .undef, .undef, .undef, .undef, .undef, .undef, .undef, .undef, .undef, .undef, .undef, .undef, .undef, .undef, .undef, .undef, .undef, .undef, .undef, .undef, .undef, .undef, .undef, .undef, .undef, .undef, .undef, .undef, .undef, .undef, .undef, .undef, .undef, .undef, .undef, .undef, .undef, .undef, .undef, .undef, .undef, .undef, .undef, .undef, .undef, .undef], []⟩ = f37_N k c37 c69 c70 (fun y0 => retF y0) p1 :=
  (f37_e_mem k c37 c69 c70 retF p1).trans (by rw [show (fun p2 s5 n6 => f37_w1A k c37 c69 c70 retF p1 p2 s5 n6) = (fun p2 s5 n6 => f37_w1N k c37 c69 c70 (fun y0 => retF y0) p1 p2 s5 n6) from funext fun p2 => funext fun s5 => funext fun n6 => f37_w1_eq k c37 c69 c70 retF p1 p2 s5 n6]; rfl)

noncomputable def G37 : Nat → PV → ((List Int) → R) → R
  | 0, _, _ => none
  | k + 1, p1, ret0 => f37_N k (G37 k) (G69 k) (G70 k) ret0 p1
theorem S37 : ∀ k, Snd Try.prog 37 f37_I f37_O (fun x ret => G37 k x (fun y0 => ret y0))
  | 0 => snd_none
  | k + 1 => snd_step (E := f37_E k (G37 k) (G69 k) (G70 k)) rfl laidOut noNums (orc_ok (S37 k).o f37_D_ok (orc_ok (S69 k).o f69_D_ok (orc_ok (S70 k).o f70_D_ok orc0_ok))) (f := 37) (fn := Try.f37) (code := f37_code) Try.func37 (by kernel_rfl) (drawsOk_of laidOut (orc_ok (S37 k).o f37_D_ok (orc_ok (S69 k).o f69_D_ok (orc_ok (S70 k).o f70_D_ok orc0_ok))) mixed (by kernel_rfl)) f37_un f37_un_ok [] (fun _ => rfl)
      (fun x ret => f37_eq k (G37 k) (G69 k) (G70 k) ret x)

/- catchpole/catchpoleref8.ValueSize -/
noncomputable def f38_I : PV → List SV × Obs := fun x => ([.val 57 x], [])
noncomputable def f38_D : List SV → Obs → Option (PV)
  | [.val 57 p1], [] => some p1
  | _, _ => none
theorem f38_D_ok (args : List SV) (B : Obs) (x : PV) (h : f38_D args B = some x) : f38_I x = (args, B) := by
  unfold f38_D at h
  split at h
  · injection h with h; subst h; rfl
  · cases h
noncomputable def f38_O : Int → Out := (fun y => ([.int .i64 y], []))
noncomputable def f38_un : Out → Option (Int)
  | ([.int .i64 y0], []) => some y0
  | _ => none
theorem f38_un_ok (o : Out) (y : Int) (h : f38_un o = some y) : o = f38_O y := by
  unfold f38_un at h
  split at h
  · injection h with h; subst h; rfl
  · cases h
noncomputable def f38_msk : Nat → Option (List Nat) := fun key => bif key == 12 then some [3, 4, 5] else none
noncomputable def f38_C (c38 : PV → (Int → R) → R) (c69 : PV → (PV → R) → R) : Oracle := orc 38 f38_D f38_O (fun x ret => c38 x (fun y0 => ret y0)) <| orc 69 f69_D f69_O (fun x ret => c69 x (fun y0 => ret y0)) <| orc0
noncomputable def f38_E (k : Nat) (c38 : PV → (Int → R) → R) (c69 : PV → (PV → R) → R) : Env := { P := Try.prog, nilOwn := fun d => false, fldOwn := fun d i => false, ownPar := ownPars, ownRet := false, mask := f38_msk, fuel := k, C := f38_C c38 c69 }
noncomputable def f38_code : Code := Try.f38.body.getD .skip
noncomputable def f38_cw1 : Code := subC f38_code [1, 1, 1, 0, 1, 0, 0]
noncomputable def f38_hw1_0 (p2 : PV) (n4 : Int) (n5 : Int) : St := ⟨[.dead, .dead, .dead, .int .i64 n4, .val 55 p2, .int .i64 n5, .dead, .dead, .dead, .dead, .dead, .dead, .dead, .dead, .dead, .dead, .dead, .dead, .dead, .dead, .dead, .dead], []⟩
noncomputable def f38_w1A (k : Nat) (c38 : PV → (Int → R) → R) (c69 : PV → (PV → R) → R) (retF : Int → R) (p2 : PV) (n4 : Int) (n5 : Int) : R := loopM (f38_E k c38 c69) f38_cw1 (kont (f38_E k c38 c69) f38_code [1, 1, 1, 0, 1, 0] (endK (f38_E k c38 c69) Try.f38 [] f38_un retF)) k (f38_hw1_0 p2 n4 n5)
noncomputable def f38_w1b0 (c38 : PV → (Int → R) → R) (c69 : PV → (PV → R) → R) (ret0 : Int → R) (next_w1_0 : Int → Int → R) (p2 : PV) (n4 : Int) (n5 : Int) : R :=
  bif (decide (n5 < (List.length (PV.els p2) : Int))) then
    bif (true && decide ((0 : Int) ≤ n5) && decide (n5 < (List.length (PV.els p2) : Int))) then
      c38 (List.getD (PV.els p2) (n5).toNat PV.nil) fun n6 =>
      next_w1_0 (IntKind.wrap .i64 (n4 + n6)) (IntKind.wrap .i64 (n5 + (1 : Int)))
    else none
  else ret0 n4

theorem f38_w1b0_mem (k : Nat) (c38 : PV → (Int → R) → R) (c69 : PV → (PV → R) → R) (retF : Int → R) (NX_w1 : St → R) (p2 : PV) (n4 : Int) (n5 : Int) : exec (f38_E k c38 c69) f38_cw1 (purgeK (f38_E k c38 c69) f38_cw1 (loopK NX_w1 (kont (f38_E k c38 c69) f38_code [1, 1, 1, 0, 1, 0] (endK (f38_E k c38 c69) Try.f38 [] f38_un retF)))) (f38_hw1_0 p2 n4 n5) = f38_w1b0 c38 c69 (fun y0 => retF y0) (fun n4 n5 => NX_w1 (f38_hw1_0 p2 n4 n5)) p2 n4 n5 := by kernel_rfl

noncomputable def f38_w1b0N (k : Nat) (c38 : PV → (Int → R) → R) (c69 : PV → (PV → R) → R) (ret0 : Int → R) (next_w1_0 : Int → Int → R) (p2 : PV) (n4 : Int) (n5 : Int) : R :=
  f38_w1b0 c38 c69 ret0 next_w1_0 p2 n4 n5
theorem f38_w1b0_eq (k : Nat) (c38 : PV → (Int → R) → R) (c69 : PV → (PV → R) → R) (retF : Int → R) (NX_w1 : St → R) (p2 : PV) (n4 : Int) (n5 : Int) : exec (f38_E k c38 c69) f38_cw1 (purgeK (f38_E k c38 c69) f38_cw1 (loopK NX_w1 (kont (f38_E k c38 c69) f38_code [1, 1, 1, 0, 1, 0] (endK (f38_E k c38 c69) Try.f38 [] f38_un retF)))) (f38_hw1_0 p2 n4 n5) = f38_w1b0N k c38 c69 (fun y0 => retF y0) (fun n4 n5 => NX_w1 (f38_hw1_0 p2 n4 n5)) p2 n4 n5 :=
  (f38_w1b0_mem k c38 c69 retF NX_w1 p2 n4 n5)

noncomputable def f38_w1B (k : Nat) (c38 : PV → (Int → R) → R) (c69 : PV → (PV → R) → R) (ret0 : Int → R) (p2 : PV) (nx : Int × Int → R) : Int × Int → R := (fun s => f38_w1b0N k c38 c69 ret0 (fun n4 n5 => nx (n4, n5)) p2 s.1 s.2)
noncomputable def f38_w1N (k : Nat) (c38 : PV → (Int → R) → R) (c69 : PV → (PV → R) → R) (ret0 : Int → R) (p2 : PV) (n4 : Int) (n5 : Int) : R := loopR (f38_w1B k c38 c69 ret0 p2) k (n4, n5)
theorem f38_w1_eq (k : Nat) (c38 : PV → (Int → R) → R) (c69 : PV → (PV → R) → R) (retF : Int → R) (p2 : PV) (n4 : Int) (n5 : Int) : f38_w1A k c38 c69 retF p2 n4 n5 = f38_w1N k c38 c69 (fun y0 => retF y0) p2 n4 n5 :=
  Eq.mp (by kernel_rfl) (loop_sim (E := (f38_E k c38 c69)) (c := f38_cw1) (K := (kont (f38_E k c38 c69) f38_code [1, 1, 1, 0, 1, 0] (endK (f38_E k c38 c69) Try.f38 [] f38_un retF))) (S := Int × Int) (fun s => f38_hw1_0 p2 s.1 s.2) (f38_w1B k c38 c69 (fun y0 => retF y0) p2) (fun NX s => by
    exact Eq.mp (by kernel_rfl) (f38_w1b0_eq k c38 c69 retF NX p2 s.1 s.2)) k (n4, n5))

noncomputable def f38_e (c38 : PV → (Int → R) → R) (c69 : PV → (PV → R) → R) (ret0 : Int → R) (w1 : PV → Int → Int → R) (p1 : PV) : R :=
  c69 p1 fun p2 =>
  w1 p2 1 0

theorem f38_e_mem (k : Nat) (c38 : PV → (Int → R) → R) (c69 : PV → (PV → R) → R) (retF : Int → R) (p1 : PV) : exec (f38_E k c38 c69) f38_code (endK (f38_E k c38 c69) Try.f38 [] f38_un retF) ⟨[.val 57 p1, .undef, .undef, .undef, .undef, .undef, .undef, .undef, .undef, .undef, .undef, .undef, .undef, .undef, .undef, .undef, .undef, .undef, .undef, .undef, .undef, .undef], []⟩ = f38_e c38 c69 (fun y0 => retF y0) (fun p2 n4 n5 => f38_w1A k c38 c69 retF p2 n4 n5) p1 := by kernel_rfl

noncomputable def f38_N (k : Nat) (c38 : PV → (Int → R) → R) (c69 : PV → (PV → R) → R) (ret0 : Int → R) (p1 : PV) : R :=
  f38_e c38 c69 ret0 (fun p2 n4 n5 => f38_w1N k c38 c69 ret0 p2 n4 n5) p1
theorem f38_eq (k : Nat) (c38 : PV → (Int → R) → R) (c69 : PV → (PV → R) → R) (retF : Int → R) (p1 : PV) : exec (f38_E k c38 c69) f38_code (endK (f38_E k c38 c69) Try.f38 [] f38_un retF) ⟨[.val 57 p1, .undef, .undef, .undef, .undef, .undef, .undef, .undef, .undef, .undef, .undef, .undef, .undef, .undef, .undef, .undef, .undef, .undef, .undef, .undef, .undef, .undef], []⟩ = f38_N k c38 c69 (fun y0 => retF y0) p1 :=
  (f38_e_mem k c38 c69 retF p1).trans (by rw [show (fun p2 n4 n5 => f38_w1A k c38 c69 retF p2 n4 n5) = (fun p2 n4 n5 => f38_w1N k c38 c69 (fun y0 => retF y0) p2 n4 n5) from funext fun p2 => funext fun n4 => funext fun n5 => f38_w1_eq k c38 c69 retF p2 n4 n5]; rfl)

noncomputable def G38 : Nat → PV → (Int → R) → R
  | 0, _, _ => none
  | k + 1, p1, ret0 => f38_N k (G38 k) (G69 k) ret0 p1
theorem S38 : ∀ k, Snd Try.prog 38 f38_I f38_O (fun x ret => G38 k x (fun y0 => ret y0))
  | 0 => snd_none
  | k + 1 => snd_step (E := f38_E k (G38 k) (G69 k)) rfl laidOut noNums (orc_ok (S38 k).o f38_D_ok (orc_ok (S69 k).o f69_D_ok orc0_ok)) (f := 38) (fn := Try.f38) (code := f38_code) Try.func38 (by kernel_rfl) (drawsOk_of laidOut (orc_ok (S38 k).o f38_D_ok (orc_ok (S69 k).o f69_D_ok orc0_ok)) mixed (by kernel_rfl)) f38_un f38_un_ok [] (fun _ => rfl)
      (fun x ret => f38_eq k (G38 k) (G69 k) ret x)

/- catchpole/catchpoleref8.SameValue -/
noncomputable def f39_I : PV × PV → List SV × Obs := fun x => ([.val 57 x.1, .val 57 x.2], [])
noncomputable def f39_D : List SV → Obs → Option (PV × PV)
  | [.val 57 p1, .val 57 p2], [] => some (p1, p2)
  | _, _ => none
theorem f39_D_ok (args : List SV) (B : Obs) (x : PV × PV) (h : f39_D args B = some x) : f39_I x = (args, B) := by
  unfold f39_D at h
  split at h
  · injection h with h; subst h; rfl
  · cases h
noncomputable def f39_O : Bool → Out := (fun y => ([.bool y], []))
noncomputable def f39_un : Out → Option (Bool)
  | ([.bool y0], []) => some y0
  | _ => none
theorem f39_un_ok (o : Out) (y : Bool) (h : f39_un o = some y) : o = f39_O y := by
  unfold f39_un at h
  split at h
  · injection h with h; subst h; rfl
  · cases h
noncomputable def f39_msk : Nat → Option (List Nat) := fun key => bif key == 12 then some [2, 3, 5] else none
noncomputable def f39_C (c39 : PV → PV → (Bool → R) → R) : Oracle := orc 39 f39_D f39_O (fun x ret => c39 x.1 x.2 (fun y0 => ret y0)) <| orc0
noncomputable def f39_E (k : Nat) (c39 : PV → PV → (Bool → R) → R) : Env := { P := Try.prog, nilOwn := fun d => false, fldOwn := fun d i => false, ownPar := ownPars, ownRet := false, mask := f39_msk, fuel := k, C := f39_C c39 }
noncomputable def f39_code : Code := Try.f39.body.getD .skip
noncomputable def f39_cw1 : Code := subC f39_code [1, 1, 0, 1, 0, 0]
noncomputable def f39_hw1_0 (p1 : PV) (p2 : PV) (n5 : Int) : St := ⟨[.dead, .dead, .ptr 2 [], .ptr 3 [], .dead, .int .i64 n5, .dead, .dead, .dead, .dead, .dead, .dead, .dead, .dead, .dead, .dead, .dead, .dead, .dead, .dead, .dead, .dead, .dead, .dead, .dead, .dead, .dead, .dead, .dead, .dead, .dead, .dead, .dead, .dead, .dead, .dead, .dead, .dead, .dead, .dead, .dead, .dead, .dead, .dead, .dead, .dead], [(2, .box 57 (.val 57 p1)), (3, .box 57 (.val 57 p2))]⟩
noncomputable def f39_w1A (k : Nat) (c39 : PV → PV → (Bool → R) → R) (retF : Bool → R) (p1 : PV) (p2 : PV) (n5 : Int) : R := loopM (f39_E k c39) f39_cw1 (kont (f39_E k c39) f39_code [1, 1, 0, 1, 0] (endK (f39_E k c39) Try.f39 [] f39_un retF)) k (f39_hw1_0 p1 p2 n5)
noncomputable def f39_w1b0 (c39 : PV → PV → (Bool → R) → R) (ret0 : Bool → R) (next_w1_0 : Int → R) (p1 : PV) (p2 : PV) (n5 : Int) : R :=
  bif (decide (n5 < (List.length (PV.els (PV.fld p1 2)) : Int))) then
    bif (true && decide ((0 : Int) ≤ n5) && decide (n5 < (List.length (PV.els (PV.fld p1 2)) : Int))) then
      bif (true && decide ((0 : Int) ≤ n5) && decide (n5 < (List.length (PV.els (PV.fld p2 2)) : Int))) then
        c39 (List.getD (PV.els (PV.fld p1 2)) (n5).toNat PV.nil) (List.getD (PV.els (PV.fld p2 2)) (n5).toNat PV.nil) fun b6 =>
        bif (!b6) then
          ret0 false
        else next_w1_0 (IntKind.wrap .i64 (n5 + (1 : Int)))
      else none
    else none
  else ret0 true

theorem f39_w1b0_mem (k : Nat) (c39 : PV → PV → (Bool → R) → R) (retF : Bool → R) (NX_w1 : St → R) (p1 : PV) (p2 : PV) (n5 : Int) : exec (f39_E k c39) f39_cw1 (purgeK (f39_E k c39) f39_cw1 (loopK NX_w1 (kont (f39_E k c39) f39_code [1, 1, 0, 1, 0] (endK (f39_E k c39) Try.f39 [] f39_un retF)))) (f39_hw1_0 p1 p2 n5) = f39_w1b0 c39 (fun y0 => retF y0) (fun n5 => NX_w1 (f39_hw1_0 p1 p2 n5)) p1 p2 n5 := by kernel_rfl

noncomputable def f39_w1b0N (k : Nat) (c39 : PV → PV → (Bool → R) → R) (ret0 : Bool → R) (next_w1_0 : Int → R) (p1 : PV) (p2 : PV) (n5 : Int) : R :=
  f39_w1b0 c39 ret0 next_w1_0 p1 p2 n5
theorem f39_w1b0_eq (k : Nat) (c39 : PV → PV → (Bool → R) → R) (retF : Bool → R) (NX_w1 : St → R) (p1 : PV) (p2 : PV) (n5 : Int) : exec (f39_E k c39) f39_cw1 (purgeK (f39_E k c39) f39_cw1 (loopK NX_w1 (kont (f39_E k c39) f39_code [1, 1, 0, 1, 0] (endK (f39_E k c39) Try.f39 [] f39_un retF)))) (f39_hw1_0 p1 p2 n5) = f39_w1b0N k c39 (fun y0 => retF y0) (fun n5 => NX_w1 (f39_hw1_0 p1 p2 n5)) p1 p2 n5 :=
  (f39_w1b0_mem k c39 retF NX_w1 p1 p2 n5)

noncomputable def f39_w1B (k : Nat) (c39 : PV → PV → (Bool → R) → R) (ret0 : Bool → R) (p1 : PV) (p2 : PV) (nx : Int → R) : Int → R := (fun s => f39_w1b0N k c39 ret0 (fun n5 => nx n5) p1 p2 s)
noncomputable def f39_w1N (k : Nat) (c39 : PV → PV → (Bool → R) → R) (ret0 : Bool → R) (p1 : PV) (p2 : PV) (n5 : Int) : R := loopR (f39_w1B k c39 ret0 p1 p2) k n5
theorem f39_w1_eq (k : Nat) (c39 : PV → PV → (Bool → R) → R) (retF : Bool → R) (p1 : PV) (p2 : PV) (n5 : Int) : f39_w1A k c39 retF p1 p2 n5 = f39_w1N k c39 (fun y0 => retF y0) p1 p2 n5 :=
  Eq.mp (by kernel_rfl) (loop_sim (E := (f39_E k c39)) (c := f39_cw1) (K := (kont (f39_E k c39) f39_code [1, 1, 0, 1, 0] (endK (f39_E k c39) Try.f39 [] f39_un retF))) (S := Int) (fun s => f39_hw1_0 p1 p2 s) (f39_w1B k c39 (fun y0 => retF y0) p1 p2) (fun NX s => by
    exact Eq.mp (by kernel_rfl) (f39_w1b0_eq k c39 retF NX p1 p2 s)) k n5)

noncomputable def f39_e (c39 : PV → PV → (Bool → R) → R) (ret0 : Bool → R) (w1 : Int → R) (p1 : PV) (p2 : PV) : R :=
  bif ((!(decide ((PV.num (PV.fld p1 0)) = (PV.num (PV.fld p2 0))))) == false) then
    bif ((!(decide ((PV.num (PV.fld p1 1)) = (PV.num (PV.fld p2 1))))) == false) then
      let b3 : Bool := (!(decide ((List.length (PV.els (PV.fld p1 2)) : Int) = (List.length (PV.els (PV.fld p2 2)) : Int))))
      bif b3 then
        ret0 false
      else w1 0
    else ret0 false
  else ret0 false

theorem f39_e_mem (k : Nat) (c39 : PV → PV → (Bool → R) → R) (retF : Bool → R) (p1 : PV) (p2 : PV) : exec (f39_E k c39) f39_code (endK (f39_E k c39) Try.f39 [] f39_un retF) ⟨[.val 57 p1, .val 57 p2, .undef, .undef, .undef, .undef, .undef, .undef, .undef, .undef, .undef, .undef, .undef, .undef, .undef, .undef, .undef, .undef, .undef, .undef, .undef, .undef, .undef, .undef, .undef, .undef, .undef, .undef, .undef, .undef, .undef, .undef, .undef, .undef, .undef, .undef, .undef, .undef, .undef, .undef, .undef, .undef, .undef, .undef, .undef, .undef], []⟩ = f39_e c39 (fun y0 => retF y0) (fun n5 => f39_w1A k c39 retF p1 p2 n5) p1 p2 := by kernel_rfl

noncomputable def f39_N (k : Nat) (c39 : PV → PV → (Bool → R) → R) (ret0 : Bool → R) (p1 : PV) (p2 : PV) : R :=
  f39_e c39 ret0 (fun n5 => f39_w1N k c39 ret0 p1 p2 n5) p1 p2
theorem f39_eq (k : Nat) (c39 : PV → PV → (Bool → R) → R) (retF : Bool → R) (p1 : PV) (p2 : PV) : exec (f39_E k c39) f39_code (endK (f39_E k c39) Try.f39 [] f39_un retF) ⟨[.val 57 p1, .val 57 p2, .undef, .undef, .undef, .undef, .undef, .undef, .undef, .undef, .undef, .undef, .undef, .undef, .undef, .undef, .undef, .undef, .undef, .undef, .undef, .undef, .undef, .undef, .undef, .undef, .undef, .undef, .undef, .undef, .undef, .undef, .undef, .undef, .undef, .undef, .undef, .undef, .undef, .undef, .undef, .undef, .undef, .undef, .undef, .undef], []⟩ = f39_N k c39 (fun y0 => retF y0) p1 p2 :=
  (f39_e_mem k c39 retF p1 p2).trans (by rw [show (fun n5 => f39_w1A k c39 retF p1 p2 n5) = (fun n5 => f39_w1N k c39 (fun y0 => retF y0) p1 p2 n5) from funext fun n5 => f39_w1_eq k c39 retF p1 p2 n5]; rfl)

noncomputable def G39 : Nat → PV → PV → (Bool → R) → R
  | 0, _, _, _ => none
  | k + 1, p1, p2, ret0 => f39_N k (G39 k) ret0 p1 p2
theorem S39 : ∀ k, Snd Try.prog 39 f39_I f39_O (fun x ret => G39 k x.1 x.2 (fun y0 => ret y0))
  | 0 => snd_none
  | k + 1 => snd_step (E := f39_E k (G39 k)) rfl laidOut noNums (orc_ok (S39 k).o f39_D_ok orc0_ok) (f := 39) (fn := Try.f39) (code := f39_code) Try.func39 (by kernel_rfl) (drawsOk_of laidOut (orc_ok (S39 k).o f39_D_ok orc0_ok) mixed (by kernel_rfl)) f39_un f39_un_ok [] (fun _ => rfl)
      (fun x ret => f39_eq k (G39 k) ret x.1 x.2)

/- catchpole/catchpolelaw10.ValueSays -/
noncomputable def f7_I : PV × PV × PV → List SV × Obs := fun x => ([.val 27 x.1, .val 30 x.2.1, .val 30 x.2.2], [])
noncomputable def f7_D : List SV → Obs → Option (PV × PV × PV)
  | [.val 27 p1, .val 30 p2, .val 30 p3], [] => some (p1, p2, p3)
  | _, _ => none
theorem f7_D_ok (args : List SV) (B : Obs) (x : PV × PV × PV) (h : f7_D args B = some x) : f7_I x = (args, B) := by
  unfold f7_D at h
  split at h
  · injection h with h; subst h; rfl
  · cases h
noncomputable def f7_O : Bool → Out := (fun y => ([.bool y], []))
noncomputable def f7_un : Out → Option (Bool)
  | ([.bool y0], []) => some y0
  | _ => none
theorem f7_un_ok (o : Out) (y : Bool) (h : f7_un o = some y) : o = f7_O y := by
  unfold f7_un at h
  split at h
  · injection h with h; subst h; rfl
  · cases h
noncomputable def f7_msk : Nat → Option (List Nat) := fun key =>  none
noncomputable def f7_C (c13 : (Bool → R) → R) (c14 : PV → Int → (Bool → R) → R) (c15 : PV → Int → (Bool → R) → R) (c18 : PV → PV → (Bool → R) → R) (c23 : PV → (Int → R) → R) (c24 : PV → (Int → R) → R) (c25 : PV → ((List Int) → R) → R) (c26 : PV → PV → (Bool → R) → R) (c27 : PV → (PV → R) → R) (c31 : PV → PV → (Bool → R) → R) (c32 : PV → (PV → R) → R) (c33 : PV → (PV → R) → R) (c34 : PV → PV → (Bool → R) → R) (c35 : PV → PV → (Bool → R) → R) (c36 : PV → (PV → R) → R) (c37 : PV → ((List Int) → R) → R) (c38 : PV → (Int → R) → R) (c39 : PV → PV → (Bool → R) → R) : Oracle := orc 13 f13_D f13_O (fun x ret => c13 (fun y0 => ret y0)) <| orc 14 f14_D f14_O (fun x ret => c14 x.1 x.2 (fun y0 => ret y0)) <| orc 15 f15_D f15_O (fun x ret => c15 x.1 x.2 (fun y0 => ret y0)) <| orc 18 f18_D f18_O (fun x ret => c18 x.1 x.2 (fun y0 => ret y0)) <| orc 23 f23_D f23_O (fun x ret => c23 x (fun y0 => ret y0)) <| orc 24 f24_D f24_O (fun x ret => c24 x (fun y0 => ret y0)) <| orc 25 f25_D f25_O (fun x ret => c25 x (fun y0 => ret y0)) <| orc 26 f26_D f26_O (fun x ret => c26 x.1 x.2 (fun y0 => ret y0)) <| orc 27 f27_D f27_O (fun x ret => c27 x (fun y0 => ret y0)) <| orc 31 f31_D f31_O (fun x ret => c31 x.1 x.2 (fun y0 => ret y0)) <| orc 32 f32_D f32_O (fun x ret => c32 x (fun y0 => ret y0)) <| orc 33 f33_D f33_O (fun x ret => c33 x (fun y0 => ret y0)) <| orc 34 f34_D f34_O (fun x ret => c34 x.1 x.2 (fun y0 => ret y0)) <| orc 35 f35_D f35_O (fun x ret => c35 x.1 x.2 (fun y0 => ret y0)) <| orc 36 f36_D f36_O (fun x ret => c36 x (fun y0 => ret y0)) <| orc 37 f37_D f37_O (fun x ret => c37 x (fun y0 => ret y0)) <| orc 38 f38_D f38_O (fun x ret => c38 x (fun y0 => ret y0)) <| orc 39 f39_D f39_O (fun x ret => c39 x.1 x.2 (fun y0 => ret y0)) <| orc0
noncomputable def f7_E (k : Nat) (c13 : (Bool → R) → R) (c14 : PV → Int → (Bool → R) → R) (c15 : PV → Int → (Bool → R) → R) (c18 : PV → PV → (Bool → R) → R) (c23 : PV → (Int → R) → R) (c24 : PV → (Int → R) → R) (c25 : PV → ((List Int) → R) → R) (c26 : PV → PV → (Bool → R) → R) (c27 : PV → (PV → R) → R) (c31 : PV → PV → (Bool → R) → R) (c32 : PV → (PV → R) → R) (c33 : PV → (PV → R) → R) (c34 : PV → PV → (Bool → R) → R) (c35 : PV → PV → (Bool → R) → R) (c36 : PV → (PV → R) → R) (c37 : PV → ((List Int) → R) → R) (c38 : PV → (Int → R) → R) (c39 : PV → PV → (Bool → R) → R) : Env := { P := Try.prog, nilOwn := fun d => false, fldOwn := fun d i => false, ownPar := ownPars, ownRet := false, mask := f7_msk, fuel := k, C := f7_C c13 c14 c15 c18 c23 c24 c25 c26 c27 c31 c32 c33 c34 c35 c36 c37 c38 c39 }
noncomputable def f7_code : Code := Try.f7.body.getD .skip
noncomputable def f7_e (c13 : (Bool → R) → R) (c14 : PV → Int → (Bool → R) → R) (c15 : PV → Int → (Bool → R) → R) (c18 : PV → PV → (Bool → R) → R) (c23 : PV → (Int → R) → R) (c24 : PV → (Int → R) → R) (c25 : PV → ((List Int) → R) → R) (c26 : PV → PV → (Bool → R) → R) (c27 : PV → (PV → R) → R) (c31 : PV → PV → (Bool → R) → R) (c32 : PV → (PV → R) → R) (c33 : PV → (PV → R) → R) (c34 : PV → PV → (Bool → R) → R) (c35 : PV → PV → (Bool → R) → R) (c36 : PV → (PV → R) → R) (c37 : PV → ((List Int) → R) → R) (c38 : PV → (Int → R) → R) (c39 : PV → PV → (Bool → R) → R) (ret0 : Bool → R) (p1 : PV) (p2 : PV) (p3 : PV) : R :=
  c13 fun b4 =>
  bif (!b4) then
    ret0 false
  else c14 p1 100 fun b5 =>
  bif (b5 == false) then
    c15 p2 40 fun b6 =>
    bif (b6 == false) then
      c15 p3 40 fun b7 =>
      bif b7 then
        ret0 true
      else c32 p1 fun p8 =>
      c33 p2 fun p9 =>
      c18 p1 p2 fun b10 =>
      c34 p8 p9 fun b11 =>
      bif ((b10 == b11) == true) then
        c31 p1 p2 fun b12 =>
        c35 p8 p9 fun b13 =>
        bif ((b12 == b13) == true) then
          c27 p2 fun p14 =>
          c36 p9 fun p15 =>
          bif ((decide (((List.map PV.num (PV.els p14)) : List Int) = (List.map PV.num (PV.els p15)))) == true) then
            c23 p2 fun n16 =>
            c36 p9 fun p17 =>
            bif ((decide (n16 = (List.length (PV.els p17) : Int))) == true) then
              c25 p2 fun s18 =>
              c37 p9 fun s19 =>
              bif ((decide ((s18 : List Int) = s19)) == true) then
                c24 p2 fun n20 =>
                c38 p9 fun n21 =>
                bif ((decide (n20 = n21)) == true) then
                  c26 p2 p3 fun b22 =>
                  c33 p3 fun p23 =>
                  c39 p9 p23 fun b24 =>
                  ret0 (b22 == b24)
                else ret0 false
              else ret0 false
            else ret0 false
          else ret0 false
        else ret0 false
      else ret0 false
    else ret0 true
  else ret0 true

theorem f7_e_mem (k : Nat) (c13 : (Bool → R) → R) (c14 : PV → Int → (Bool → R) → R) (c15 : PV → Int → (Bool → R) → R) (c18 : PV → PV → (Bool → R) → R) (c23 : PV → (Int → R) → R) (c24 : PV → (Int → R) → R) (c25 : PV → ((List Int) → R) → R) (c26 : PV → PV → (Bool → R) → R) (c27 : PV → (PV → R) → R) (c31 : PV → PV → (Bool → R) → R) (c32 : PV → (PV → R) → R) (c33 : PV → (PV → R) → R) (c34 : PV → PV → (Bool → R) → R) (c35 : PV → PV → (Bool → R) → R) (c36 : PV → (PV → R) → R) (c37 : PV → ((List Int) → R) → R) (c38 : PV → (Int → R) → R) (c39 : PV → PV → (Bool → R) → R) (retF : Bool → R) (p1 : PV) (p2 : PV) (p3 : PV) : exec (f7_E k c13 c14 c15 c18 c23 c24 c25 c26 c27 c31 c32 c33 c34 c35 c36 c37 c38 c39) f7_code (endK (f7_E k c13 c14 c15 c18 c23 c24 c25 c26 c27 c31 c32 c33 c34 c35 c36 c37 c38 c39) Try.f7 [] f7_un retF) ⟨[.val 27 p1, .val 30 p2, .val 30 p3, .undef, .undef, .undef, .undef, .undef, .undef, .undef, .undef, .undef, .undef, .undef, .undef, .undef, .undef, .undef, .undef, .undef, .undef, .undef, .undef, .undef, .undef, .undef, .undef, .undef, .undef, .undef, .undef, .undef, .undef, .undef, .undef, .undef, .undef, .undef, .undef, .undef, .undef, .undef, .undef, .undef, .undef, .undef, .undef, .undef, .undef, .undef, .undef, .undef, .undef, .undef, .undef, .undef, .undef, .undef, .undef, .undef, .undef, .undef, .undef, .undef, .undef, .undef, .undef, .undef, .undef, .undef, .undef, .undef, .undef, .undef, .undef, .undef, .undef, .undef, .undef, .undef, .undef, .undef], []⟩ = f7_e c13 c14 c15 c18 c23 c24 c25 c26 c27 c31 c32 c33 c34 c35 c36 c37 c38 c39 (fun y0 => retF y0) p1 p2 p3 := by kernel_rfl

noncomputable def f7_N (k : Nat) (c13 : (Bool → R) → R) (c14 : PV → Int → (Bool → R) → R) (c15 : PV → Int → (Bool → R) → R) (c18 : PV → PV → (Bool → R) → R) (c23 : PV → (Int → R) → R) (c24 : PV → (Int → R) → R) (c25 : PV → ((List Int) → R) → R) (c26 : PV → PV → (Bool → R) → R) (c27 : PV → (PV → R) → R) (c31 : PV → PV → (Bool → R) → R) (c32 : PV → (PV → R) → R) (c33 : PV → (PV → R) → R) (c34 : PV → PV → (Bool → R) → R) (c35 : PV → PV → (Bool → R) → R) (c36 : PV → (PV → R) → R) (c37 : PV → ((List Int) → R) → R) (c38 : PV → (Int → R) → R) (c39 : PV → PV → (Bool → R) → R) (ret0 : Bool → R) (p1 : PV) (p2 : PV) (p3 : PV) : R :=
  f7_e c13 c14 c15 c18 c23 c24 c25 c26 c27 c31 c32 c33 c34 c35 c36 c37 c38 c39 ret0 p1 p2 p3
theorem f7_eq (k : Nat) (c13 : (Bool → R) → R) (c14 : PV → Int → (Bool → R) → R) (c15 : PV → Int → (Bool → R) → R) (c18 : PV → PV → (Bool → R) → R) (c23 : PV → (Int → R) → R) (c24 : PV → (Int → R) → R) (c25 : PV → ((List Int) → R) → R) (c26 : PV → PV → (Bool → R) → R) (c27 : PV → (PV → R) → R) (c31 : PV → PV → (Bool → R) → R) (c32 : PV → (PV → R) → R) (c33 : PV → (PV → R) → R) (c34 : PV → PV → (Bool → R) → R) (c35 : PV → PV → (Bool → R) → R) (c36 : PV → (PV → R) → R) (c37 : PV → ((List Int) → R) → R) (c38 : PV → (Int → R) → R) (c39 : PV → PV → (Bool → R) → R) (retF : Bool → R) (p1 : PV) (p2 : PV) (p3 : PV) : exec (f7_E k c13 c14 c15 c18 c23 c24 c25 c26 c27 c31 c32 c33 c34 c35 c36 c37 c38 c39) f7_code (endK (f7_E k c13 c14 c15 c18 c23 c24 c25 c26 c27 c31 c32 c33 c34 c35 c36 c37 c38 c39) Try.f7 [] f7_un retF) ⟨[.val 27 p1, .val 30 p2, .val 30 p3, .undef, .undef, .undef, .undef, .undef, .undef, .undef, .undef, .undef, .undef, .undef, .undef, .undef, .undef, .undef, .undef, .undef, .undef, .undef, .undef, .undef, .undef, .undef, .undef, .undef, .undef, .undef, .undef, .undef, .undef, .undef, .undef, .undef, .undef, .undef, .undef, .undef, .undef, .undef, .undef, .undef, .undef, .undef, .undef, .undef, .undef, .undef, .undef, .undef, .undef, .undef, .undef, .undef, .undef, .undef, .undef, .undef, .undef, .undef, .undef, .undef, .undef, .undef, .undef, .undef, .undef, .undef, .undef, .undef, .undef, .undef, .undef, .undef, .undef, .undef, .undef, .undef, .undef, .undef], []⟩ = f7_N k c13 c14 c15 c18 c23 c24 c25 c26 c27 c31 c32 c33 c34 c35 c36 c37 c38 c39 (fun y0 => retF y0) p1 p2 p3 :=
  (f7_e_mem k c13 c14 c15 c18 c23 c24 c25 c26 c27 c31 c32 c33 c34 c35 c36 c37 c38 c39 retF p1 p2 p3)

noncomputable def G7 : Nat → PV → PV → PV → (Bool → R) → R
  | 0, _, _, _, _ => none
  | k + 1, p1, p2, p3, ret0 => f7_N k (G13 k) (G14 k) (G15 k) (G18 k) (G23 k) (G24 k) (G25 k) (G26 k) (G27 k) (G31 k) (G32 k) (G33 k) (G34 k) (G35 k) (G36 k) (G37 k) (G38 k) (G39 k) ret0 p1 p2 p3
theorem S7 : ∀ k, Snd Try.prog 7 f7_I f7_O (fun x ret => G7 k x.1 x.2.1 x.2.2 (fun y0 => ret y0))
  | 0 => snd_none
  | k + 1 => snd_step (E := f7_E k (G13 k) (G14 k) (G15 k) (G18 k) (G23 k) (G24 k) (G25 k) (G26 k) (G27 k) (G31 k) (G32 k) (G33 k) (G34 k) (G35 k) (G36 k) (G37 k) (G38 k) (G39 k)) rfl laidOut noNums (orc_ok (S13 k).o f13_D_ok (orc_ok (S14 k).o f14_D_ok (orc_ok (S15 k).o f15_D_ok (orc_ok (S18 k).o f18_D_ok (orc_ok (S23 k).o f23_D_ok (orc_ok (S24 k).o f24_D_ok (orc_ok (S25 k).o f25_D_ok (orc_ok (S26 k).o f26_D_ok (orc_ok (S27 k).o f27_D_ok (orc_ok (S31 k).o f31_D_ok (orc_ok (S32 k).o f32_D_ok (orc_ok (S33 k).o f33_D_ok (orc_ok (S34 k).o f34_D_ok (orc_ok (S35 k).o f35_D_ok (orc_ok (S36 k).o f36_D_ok (orc_ok (S37 k).o f37_D_ok (orc_ok (S38 k).o f38_D_ok (orc_ok (S39 k).o f39_D_ok orc0_ok)))))))))))))))))) (f := 7) (fn := Try.f7) (code := f7_code) Try.func7 (by kernel_rfl) (drawsOk_of laidOut (orc_ok (S13 k).o f13_D_ok (orc_ok (S14 k).o f14_D_ok (orc_ok (S15 k).o f15_D_ok (orc_ok (S18 k).o f18_D_ok (orc_ok (S23 k).o f23_D_ok (orc_ok (S24 k).o f24_D_ok (orc_ok (S25 k).o f25_D_ok (orc_ok (S26 k).o f26_D_ok (orc_ok (S27 k).o f27_D_ok (orc_ok (S31 k).o f31_D_ok (orc_ok (S32 k).o f32_D_ok (orc_ok (S33 k).o f33_D_ok (orc_ok (S34 k).o f34_D_ok (orc_ok (S35 k).o f35_D_ok (orc_ok (S36 k).o f36_D_ok (orc_ok (S37 k).o f37_D_ok (orc_ok (S38 k).o f38_D_ok (orc_ok (S39 k).o f39_D_ok orc0_ok)))))))))))))))))) mixed (by kernel_rfl)) f7_un f7_un_ok [] (fun _ => rfl)
      (fun x ret => f7_eq k (G13 k) (G14 k) (G15 k) (G18 k) (G23 k) (G24 k) (G25 k) (G26 k) (G27 k) (G31 k) (G32 k) (G33 k) (G34 k) (G35 k) (G36 k) (G37 k) (G38 k) (G39 k) ret x.1 x.2.1 x.2.2)

end Go.Proofs.Ytbellpoahhhmhaa
