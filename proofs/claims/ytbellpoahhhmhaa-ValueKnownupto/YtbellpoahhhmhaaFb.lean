/- Functions of the program as Lean functions, each tied to the program by the kernel: catchpolelaw10.ValueKnown -/
import Derived.Test.YtbellpoahhhmhaaF
set_option linter.unusedVariables false
set_option maxRecDepth 100000
namespace Go.Proofs.Ytbellpoahhhmhaa
open Go Go.X
/- catchpole/value.full -/
noncomputable def f65_I : PV → List SV × Obs := fun x => ([.val 30 x], [])
noncomputable def f65_D : List SV → Obs → Option (PV)
  | [.val 30 p1], [] => some p1
  | _, _ => none
theorem f65_D_ok (args : List SV) (B : Obs) (x : PV) (h : f65_D args B = some x) : f65_I x = (args, B) := by
  unfold f65_D at h
  split at h
  · injection h with h; subst h; rfl
  · cases h
noncomputable def f65_O : Bool → Out := (fun y => ([.bool y], []))
noncomputable def f65_un : Out → Option (Bool)
  | ([.bool y0], []) => some y0
  | _ => none
theorem f65_un_ok (o : Out) (y : Bool) (h : f65_un o = some y) : o = f65_O y := by
  unfold f65_un at h
  split at h
  · injection h with h; subst h; rfl
  · cases h
noncomputable def f65_msk : Nat → Option (List Nat) := fun key => bif key == 6 then some [1, 6, 7, 8] else none
noncomputable def f65_C (c23 : PV → (Int → R) → R) (c65 : PV → (Bool → R) → R) : Oracle := orc 23 f23_D f23_O (fun x ret => c23 x (fun y0 => ret y0)) <| orc 65 f65_D f65_O (fun x ret => c65 x (fun y0 => ret y0)) <| orc0
noncomputable def f65_E (k : Nat) (c23 : PV → (Int → R) → R) (c65 : PV → (Bool → R) → R) : Env := { P := Try.prog, nilOwn := fun d => false, fldOwn := fun d i => false, ownPar := ownPars, ownRet := false, mask := f65_msk, fuel := k, C := f65_C c23 c65 }
noncomputable def f65_code : Code := Try.f65.body.getD .skip
noncomputable def f65_cw1 : Code := subC f65_code [1, 0, 1, 0, 0]
noncomputable def f65_hw1_0 (p1 : PV) (n5 : Int) : St := ⟨[.dead, .ptr 1 [], .dead, .dead, .dead, .dead, .val 28 (PV.fld p1 2), .int .i64 (List.length (PV.els (PV.fld p1 2)) : Int), .int .i64 n5, .dead, .dead, .dead, .dead, .dead, .dead, .dead, .dead, .dead, .dead, .dead, .dead, .dead, .dead, .dead, .dead, .dead], [(1, .box 30 (.val 30 p1))]⟩
noncomputable def f65_w1A (k : Nat) (c23 : PV → (Int → R) → R) (c65 : PV → (Bool → R) → R) (retF : Bool → R) (p1 : PV) (n5 : Int) : R := loopM (f65_E k c23 c65) f65_cw1 (kont (f65_E k c23 c65) f65_code [1, 0, 1, 0] (endK (f65_E k c23 c65) Try.f65 [] f65_un retF)) k (f65_hw1_0 p1 n5)
noncomputable def f65_w1b0 (c23 : PV → (Int → R) → R) (c65 : PV → (Bool → R) → R) (ret0 : Bool → R) (next_w1_0 : Int → R) (p1 : PV) (n5 : Int) : R :=
  bif (decide (n5 < (List.length (PV.els (PV.fld p1 2)) : Int))) then
    bif (true && decide ((0 : Int) ≤ n5) && decide (n5 < (List.length (PV.els (PV.fld p1 2)) : Int))) then
      bif ((decide ((PV.num (PV.fld p1 0)) = (6 : Int))) == true) then
        c23 (List.getD (PV.els (PV.fld p1 2)) (n5).toNat PV.nil) fun n6 =>
        bif ((decide (n6 = (0 : Int))) == false) then
          c65 (List.getD (PV.els (PV.fld p1 2)) (n5).toNat PV.nil) fun b7 =>
          bif (!b7) then
            ret0 false
          else next_w1_0 (IntKind.wrap .i64 (n5 + (1 : Int)))
        else ret0 false
      else c65 (List.getD (PV.els (PV.fld p1 2)) (n5).toNat PV.nil) fun b8 =>
      bif (!b8) then
        ret0 false
      else next_w1_0 (IntKind.wrap .i64 (n5 + (1 : Int)))
    else none
  else ret0 true

theorem f65_w1b0_mem (k : Nat) (c23 : PV → (Int → R) → R) (c65 : PV → (Bool → R) → R) (retF : Bool → R) (NX_w1 : St → R) (p1 : PV) (n5 : Int) : exec (f65_E k c23 c65) f65_cw1 (purgeK (f65_E k c23 c65) f65_cw1 (loopK NX_w1 (kont (f65_E k c23 c65) f65_code [1, 0, 1, 0] (endK (f65_E k c23 c65) Try.f65 [] f65_un retF)))) (f65_hw1_0 p1 n5) = f65_w1b0 c23 c65 (fun y0 => retF y0) (fun n5 => NX_w1 (f65_hw1_0 p1 n5)) p1 n5 := by kernel_rfl

noncomputable def f65_w1b0N (k : Nat) (c23 : PV → (Int → R) → R) (c65 : PV → (Bool → R) → R) (ret0 : Bool → R) (next_w1_0 : Int → R) (p1 : PV) (n5 : Int) : R :=
  f65_w1b0 c23 c65 ret0 next_w1_0 p1 n5
theorem f65_w1b0_eq (k : Nat) (c23 : PV → (Int → R) → R) (c65 : PV → (Bool → R) → R) (retF : Bool → R) (NX_w1 : St → R) (p1 : PV) (n5 : Int) : exec (f65_E k c23 c65) f65_cw1 (purgeK (f65_E k c23 c65) f65_cw1 (loopK NX_w1 (kont (f65_E k c23 c65) f65_code [1, 0, 1, 0] (endK (f65_E k c23 c65) Try.f65 [] f65_un retF)))) (f65_hw1_0 p1 n5) = f65_w1b0N k c23 c65 (fun y0 => retF y0) (fun n5 => NX_w1 (f65_hw1_0 p1 n5)) p1 n5 :=
  (f65_w1b0_mem k c23 c65 retF NX_w1 p1 n5)

noncomputable def f65_w1B (k : Nat) (c23 : PV → (Int → R) → R) (c65 : PV → (Bool → R) → R) (ret0 : Bool → R) (p1 : PV) (nx : Int → R) : Int → R := (fun s => f65_w1b0N k c23 c65 ret0 (fun n5 => nx n5) p1 s)
noncomputable def f65_w1N (k : Nat) (c23 : PV → (Int → R) → R) (c65 : PV → (Bool → R) → R) (ret0 : Bool → R) (p1 : PV) (n5 : Int) : R := loopR (f65_w1B k c23 c65 ret0 p1) k n5
theorem f65_w1_eq (k : Nat) (c23 : PV → (Int → R) → R) (c65 : PV → (Bool → R) → R) (retF : Bool → R) (p1 : PV) (n5 : Int) : f65_w1A k c23 c65 retF p1 n5 = f65_w1N k c23 c65 (fun y0 => retF y0) p1 n5 :=
  Eq.mp (by kernel_rfl) (loop_sim (E := (f65_E k c23 c65)) (c := f65_cw1) (K := (kont (f65_E k c23 c65) f65_code [1, 0, 1, 0] (endK (f65_E k c23 c65) Try.f65 [] f65_un retF))) (S := Int) (fun s => f65_hw1_0 p1 s) (f65_w1B k c23 c65 (fun y0 => retF y0) p1) (fun NX s => by
    exact Eq.mp (by kernel_rfl) (f65_w1b0_eq k c23 c65 retF NX p1 s)) k n5)

noncomputable def f65_e (c23 : PV → (Int → R) → R) (c65 : PV → (Bool → R) → R) (ret0 : Bool → R) (w1 : Int → R) (p1 : PV) : R :=
  w1 0

theorem f65_e_mem (k : Nat) (c23 : PV → (Int → R) → R) (c65 : PV → (Bool → R) → R) (retF : Bool → R) (p1 : PV) : exec (f65_E k c23 c65) f65_code (endK (f65_E k c23 c65) Try.f65 [] f65_un retF) ⟨[.val 30 p1, .undef, .undef, .undef, .undef, .undef, .undef, .undef, .undef, .undef, .undef, .undef, .undef, .undef, .undef, .undef, .undef, .undef, .undef, .undef, .undef, .undef, .undef, .undef, .undef, .undef], []⟩ = f65_e c23 c65 (fun y0 => retF y0) (fun n5 => f65_w1A k c23 c65 retF p1 n5) p1 := by kernel_rfl

noncomputable def f65_N (k : Nat) (c23 : PV → (Int → R) → R) (c65 : PV → (Bool → R) → R) (ret0 : Bool → R) (p1 : PV) : R :=
  f65_e c23 c65 ret0 (fun n5 => f65_w1N k c23 c65 ret0 p1 n5) p1
theorem f65_eq (k : Nat) (c23 : PV → (Int → R) → R) (c65 : PV → (Bool → R) → R) (retF : Bool → R) (p1 : PV) : exec (f65_E k c23 c65) f65_code (endK (f65_E k c23 c65) Try.f65 [] f65_un retF) ⟨[.val 30 p1, .undef, .undef, .undef, .undef, .undef, .undef, .undef, .undef, .undef, .undef, .undef, .undef, .undef, .undef, .undef, .undef, .undef, .undef, .undef, .undef, .undef, .undef, .undef, .undef, .undef], []⟩ = f65_N k c23 c65 (fun y0 => retF y0) p1 :=
  (f65_e_mem k c23 c65 retF p1).trans (by rw [show (fun n5 => f65_w1A k c23 c65 retF p1 n5) = (fun n5 => f65_w1N k c23 c65 (fun y0 => retF y0) p1 n5) from funext fun n5 => f65_w1_eq k c23 c65 retF p1 n5]; rfl)

noncomputable def G65 : Nat → PV → (Bool → R) → R
  | 0, _, _ => none
  | k + 1, p1, ret0 => f65_N k (G23 k) (G65 k) ret0 p1
theorem S65 : ∀ k, Snd Try.prog 65 f65_I f65_O (fun x ret => G65 k x (fun y0 => ret y0))
  | 0 => snd_none
  | k + 1 => snd_step (E := f65_E k (G23 k) (G65 k)) rfl laidOut noNums (orc_ok (S23 k).o f23_D_ok (orc_ok (S65 k).o f65_D_ok orc0_ok)) (f := 65) (fn := Try.f65) (code := f65_code) Try.func65 (by kernel_rfl) (drawsOk_of laidOut (orc_ok (S23 k).o f23_D_ok (orc_ok (S65 k).o f65_D_ok orc0_ok)) mixed (by kernel_rfl)) f65_un f65_un_ok [] (fun _ => rfl)
      (fun x ret => f65_eq k (G23 k) (G65 k) ret x)

/- catchpole/value.Full -/
noncomputable def f31_I : PV × PV → List SV × Obs := fun x => ([.val 27 x.1, .val 30 x.2], [])
noncomputable def f31_D : List SV → Obs → Option (PV × PV)
  | [.val 27 p1, .val 30 p2], [] => some (p1, p2)
  | _, _ => none
theorem f31_D_ok (args : List SV) (B : Obs) (x : PV × PV) (h : f31_D args B = some x) : f31_I x = (args, B) := by
  unfold f31_D at h
  split at h
  · injection h with h; subst h; rfl
  · cases h
noncomputable def f31_O : Bool → Out := (fun y => ([.bool y], []))
noncomputable def f31_un : Out → Option (Bool)
  | ([.bool y0], []) => some y0
  | _ => none
theorem f31_un_ok (o : Out) (y : Bool) (h : f31_un o = some y) : o = f31_O y := by
  unfold f31_un at h
  split at h
  · injection h with h; subst h; rfl
  · cases h
noncomputable def f31_msk : Nat → Option (List Nat) := fun key =>  none
noncomputable def f31_C (c18 : PV → PV → (Bool → R) → R) (c65 : PV → (Bool → R) → R) : Oracle := orc 18 f18_D f18_O (fun x ret => c18 x.1 x.2 (fun y0 => ret y0)) <| orc 65 f65_D f65_O (fun x ret => c65 x (fun y0 => ret y0)) <| orc0
noncomputable def f31_E (k : Nat) (c18 : PV → PV → (Bool → R) → R) (c65 : PV → (Bool → R) → R) : Env := { P := Try.prog, nilOwn := fun d => false, fldOwn := fun d i => false, ownPar := ownPars, ownRet := false, mask := f31_msk, fuel := k, C := f31_C c18 c65 }
noncomputable def f31_code : Code := Try.f31.body.getD .skip
noncomputable def f31_e (c18 : PV → PV → (Bool → R) → R) (c65 : PV → (Bool → R) → R) (ret0 : Bool → R) (p1 : PV) (p2 : PV) : R :=
  c18 p1 p2 fun b3 =>
  bif (b3 == true) then
    c65 p2 fun b4 =>
    ret0 b4
  else ret0 false

theorem f31_e_mem (k : Nat) (c18 : PV → PV → (Bool → R) → R) (c65 : PV → (Bool → R) → R) (retF : Bool → R) (p1 : PV) (p2 : PV) : exec (f31_E k c18 c65) f31_code (endK (f31_E k c18 c65) Try.f31 [] f31_un retF) ⟨[.val 27 p1, .val 30 p2, .undef, .undef, .undef, .undef, .undef, .undef, .undef, .undef, .undef, .undef], []⟩ = f31_e c18 c65 (fun y0 => retF y0) p1 p2 := by kernel_rfl

noncomputable def f31_N (k : Nat) (c18 : PV → PV → (Bool → R) → R) (c65 : PV → (Bool → R) → R) (ret0 : Bool → R) (p1 : PV) (p2 : PV) : R :=
  f31_e c18 c65 ret0 p1 p2
theorem f31_eq (k : Nat) (c18 : PV → PV → (Bool → R) → R) (c65 : PV → (Bool → R) → R) (retF : Bool → R) (p1 : PV) (p2 : PV) : exec (f31_E k c18 c65) f31_code (endK (f31_E k c18 c65) Try.f31 [] f31_un retF) ⟨[.val 27 p1, .val 30 p2, .undef, .undef, .undef, .undef, .undef, .undef, .undef, .undef, .undef, .undef], []⟩ = f31_N k c18 c65 (fun y0 => retF y0) p1 p2 :=
  (f31_e_mem k c18 c65 retF p1 p2)

noncomputable def G31 : Nat → PV → PV → (Bool → R) → R
  | 0, _, _, _ => none
  | k + 1, p1, p2, ret0 => f31_N k (G18 k) (G65 k) ret0 p1 p2
theorem S31 : ∀ k, Snd Try.prog 31 f31_I f31_O (fun x ret => G31 k x.1 x.2 (fun y0 => ret y0))
  | 0 => snd_none
  | k + 1 => snd_step (E := f31_E k (G18 k) (G65 k)) rfl laidOut noNums (orc_ok (S18 k).o f18_D_ok (orc_ok (S65 k).o f65_D_ok orc0_ok)) (f := 31) (fn := Try.f31) (code := f31_code) Try.func31 (by kernel_rfl) (drawsOk_of laidOut (orc_ok (S18 k).o f18_D_ok (orc_ok (S65 k).o f65_D_ok orc0_ok)) mixed (by kernel_rfl)) f31_un f31_un_ok [] (fun _ => rfl)
      (fun x ret => f31_eq k (G18 k) (G65 k) ret x.1 x.2)

/- catchpole/catchpolelaw10.star -/
noncomputable def f20_I : PV → List SV × Obs := fun x => ([.val 27 x], [])
noncomputable def f20_D : List SV → Obs → Option (PV)
  | [.val 27 p1], [] => some p1
  | _, _ => none
theorem f20_D_ok (args : List SV) (B : Obs) (x : PV) (h : f20_D args B = some x) : f20_I x = (args, B) := by
  unfold f20_D at h
  split at h
  · injection h with h; subst h; rfl
  · cases h
noncomputable def f20_O : PV → Out := (fun y => ([.val 27 y], []))
noncomputable def f20_un : Out → Option (PV)
  | ([.val 27 y0], []) => some y0
  | _ => none
theorem f20_un_ok (o : Out) (y : PV) (h : f20_un o = some y) : o = f20_O y := by
  unfold f20_un at h
  split at h
  · injection h with h; subst h; rfl
  · cases h
noncomputable def f20_msk : Nat → Option (List Nat) := fun key =>  none
noncomputable def f20_C : Oracle := orc0
noncomputable def f20_E (k : Nat) : Env := { P := Try.prog, nilOwn := fun d => false, fldOwn := fun d i => false, ownPar := ownPars, ownRet := false, mask := f20_msk, fuel := k, C := f20_C }
noncomputable def f20_code : Code := Try.f20.body.getD .skip
noncomputable def f20_e (ret0 : PV → R) (p1 : PV) : R :=
  ret0 (PV.agg [(PV.int 5), (PV.agg [(PV.int 0), (PV.int 0), (PV.int 0), (PV.int 0)]), (PV.int 0), (PV.list [p1])])

theorem f20_e_mem (k : Nat) (retF : PV → R) (p1 : PV) : exec (f20_E k) f20_code (endK (f20_E k) Try.f20 [] f20_un retF) ⟨[.val 27 p1, .undef, .undef, .undef, .undef, .undef], []⟩ = f20_e (fun y0 => retF y0) p1 := by kernel_rfl

noncomputable def f20_N (k : Nat) (ret0 : PV → R) (p1 : PV) : R :=
  f20_e ret0 p1
theorem f20_eq (k : Nat) (retF : PV → R) (p1 : PV) : exec (f20_E k) f20_code (endK (f20_E k) Try.f20 [] f20_un retF) ⟨[.val 27 p1, .undef, .undef, .undef, .undef, .undef], []⟩ = f20_N k (fun y0 => retF y0) p1 :=
  (f20_e_mem k retF p1)

noncomputable def G20 : Nat → PV → (PV → R) → R
  | 0, _, _ => none
  | k + 1, p1, ret0 => f20_N k  ret0 p1
theorem S20 : ∀ k, Snd Try.prog 20 f20_I f20_O (fun x ret => G20 k x (fun y0 => ret y0))
  | 0 => snd_none
  | k + 1 => snd_step (E := f20_E k ) rfl laidOut noNums orc0_ok (f := 20) (fn := Try.f20) (code := f20_code) Try.func20 (by kernel_rfl) (drawsOk_of laidOut orc0_ok mixed (by kernel_rfl)) f20_un f20_un_ok [] (fun _ => rfl)
      (fun x ret => f20_eq k  ret x)

/- catchpole/catchpolelaw10.grp -/
noncomputable def f21_I : Int × PV → List SV × Obs := fun x => ([.int .i64 x.1, .val 27 x.2], [])
noncomputable def f21_D : List SV → Obs → Option (Int × PV)
  | [.int .i64 n1, .val 27 p2], [] => some (n1, p2)
  | _, _ => none
theorem f21_D_ok (args : List SV) (B : Obs) (x : Int × PV) (h : f21_D args B = some x) : f21_I x = (args, B) := by
  unfold f21_D at h
  split at h
  · injection h with h; subst h; rfl
  · cases h
noncomputable def f21_O : PV → Out := (fun y => ([.val 27 y], []))
noncomputable def f21_un : Out → Option (PV)
  | ([.val 27 y0], []) => some y0
  | _ => none
theorem f21_un_ok (o : Out) (y : PV) (h : f21_un o = some y) : o = f21_O y := by
  unfold f21_un at h
  split at h
  · injection h with h; subst h; rfl
  · cases h
noncomputable def f21_msk : Nat → Option (List Nat) := fun key =>  none
noncomputable def f21_C : Oracle := orc0
noncomputable def f21_E (k : Nat) : Env := { P := Try.prog, nilOwn := fun d => false, fldOwn := fun d i => false, ownPar := ownPars, ownRet := false, mask := f21_msk, fuel := k, C := f21_C }
noncomputable def f21_code : Code := Try.f21.body.getD .skip
noncomputable def f21_e (ret0 : PV → R) (n1 : Int) (p2 : PV) : R :=
  ret0 (PV.agg [(PV.int 6), (PV.agg [(PV.int 0), (PV.int 0), (PV.int 0), (PV.int 0)]), (PV.int n1), (PV.list [p2])])

theorem f21_e_mem (k : Nat) (retF : PV → R) (n1 : Int) (p2 : PV) : exec (f21_E k) f21_code (endK (f21_E k) Try.f21 [] f21_un retF) ⟨[.int .i64 n1, .val 27 p2, .undef, .undef, .undef, .undef, .undef, .undef, .undef], []⟩ = f21_e (fun y0 => retF y0) n1 p2 := by kernel_rfl

noncomputable def f21_N (k : Nat) (ret0 : PV → R) (n1 : Int) (p2 : PV) : R :=
  f21_e ret0 n1 p2
theorem f21_eq (k : Nat) (retF : PV → R) (n1 : Int) (p2 : PV) : exec (f21_E k) f21_code (endK (f21_E k) Try.f21 [] f21_un retF) ⟨[.int .i64 n1, .val 27 p2, .undef, .undef, .undef, .undef, .undef, .undef, .undef], []⟩ = f21_N k (fun y0 => retF y0) n1 p2 :=
  (f21_e_mem k retF n1 p2)

noncomputable def G21 : Nat → Int → PV → (PV → R) → R
  | 0, _, _, _ => none
  | k + 1, n1, p2, ret0 => f21_N k  ret0 n1 p2
theorem S21 : ∀ k, Snd Try.prog 21 f21_I f21_O (fun x ret => G21 k x.1 x.2 (fun y0 => ret y0))
  | 0 => snd_none
  | k + 1 => snd_step (E := f21_E k ) rfl laidOut noNums orc0_ok (f := 21) (fn := Try.f21) (code := f21_code) Try.func21 (by kernel_rfl) (drawsOk_of laidOut orc0_ok mixed (by kernel_rfl)) f21_un f21_un_ok [] (fun _ => rfl)
      (fun x ret => f21_eq k  ret x.1 x.2)

/- catchpole/catchpolelaw10.anew -/
noncomputable def f22_I : PV → List SV × Obs := fun x => ([.val 27 x], [])
noncomputable def f22_D : List SV → Obs → Option (PV)
  | [.val 27 p1], [] => some p1
  | _, _ => none
theorem f22_D_ok (args : List SV) (B : Obs) (x : PV) (h : f22_D args B = some x) : f22_I x = (args, B) := by
  unfold f22_D at h
  split at h
  · injection h with h; subst h; rfl
  · cases h
noncomputable def f22_O : PV → Out := (fun y => ([.val 27 y], []))
noncomputable def f22_un : Out → Option (PV)
  | ([.val 27 y0], []) => some y0
  | _ => none
theorem f22_un_ok (o : Out) (y : PV) (h : f22_un o = some y) : o = f22_O y := by
  unfold f22_un at h
  split at h
  · injection h with h; subst h; rfl
  · cases h
noncomputable def f22_msk : Nat → Option (List Nat) := fun key =>  none
noncomputable def f22_C : Oracle := orc0
noncomputable def f22_E (k : Nat) : Env := { P := Try.prog, nilOwn := fun d => false, fldOwn := fun d i => false, ownPar := ownPars, ownRet := false, mask := f22_msk, fuel := k, C := f22_C }
noncomputable def f22_code : Code := Try.f22.body.getD .skip
noncomputable def f22_e (ret0 : PV → R) (p1 : PV) : R :=
  ret0 (PV.agg [(PV.int 7), (PV.agg [(PV.int 0), (PV.int 0), (PV.int 0), (PV.int 0)]), (PV.int 0), (PV.list [p1])])

theorem f22_e_mem (k : Nat) (retF : PV → R) (p1 : PV) : exec (f22_E k) f22_code (endK (f22_E k) Try.f22 [] f22_un retF) ⟨[.val 27 p1, .undef, .undef, .undef, .undef, .undef], []⟩ = f22_e (fun y0 => retF y0) p1 := by kernel_rfl

noncomputable def f22_N (k : Nat) (ret0 : PV → R) (p1 : PV) : R :=
  f22_e ret0 p1
theorem f22_eq (k : Nat) (retF : PV → R) (p1 : PV) : exec (f22_E k) f22_code (endK (f22_E k) Try.f22 [] f22_un retF) ⟨[.val 27 p1, .undef, .undef, .undef, .undef, .undef], []⟩ = f22_N k (fun y0 => retF y0) p1 :=
  (f22_e_mem k retF p1)

noncomputable def G22 : Nat → PV → (PV → R) → R
  | 0, _, _ => none
  | k + 1, p1, ret0 => f22_N k  ret0 p1
theorem S22 : ∀ k, Snd Try.prog 22 f22_I f22_O (fun x ret => G22 k x (fun y0 => ret y0))
  | 0 => snd_none
  | k + 1 => snd_step (E := f22_E k ) rfl laidOut noNums orc0_ok (f := 22) (fn := Try.f22) (code := f22_code) Try.func22 (by kernel_rfl) (drawsOk_of laidOut orc0_ok mixed (by kernel_rfl)) f22_un f22_un_ok [] (fun _ => rfl)
      (fun x ret => f22_eq k  ret x)

/- slices.EqualFunc[[]catchpole/value.Value,[]catchpole/value.Value,catchpole/value.Value,catchpole/value.Value] -/
noncomputable def f62_I : PV × PV → List SV × Obs := fun x => ([.val 28 x.1, .val 28 x.2, .fn 26 []], [])
noncomputable def f62_D : List SV → Obs → Option (PV × PV)
  | [.val 28 p1, .val 28 p2, .fn 26 []], [] => some (p1, p2)
  | _, _ => none
theorem f62_D_ok (args : List SV) (B : Obs) (x : PV × PV) (h : f62_D args B = some x) : f62_I x = (args, B) := by
  unfold f62_D at h
  split at h
  · injection h with h; subst h; rfl
  · cases h
noncomputable def f62_O : Bool → Out := (fun y => ([.bool y], []))
noncomputable def f62_un : Out → Option (Bool)
  | ([.bool y0], []) => some y0
  | _ => none
theorem f62_un_ok (o : Out) (y : Bool) (h : f62_un o = some y) : o = f62_O y := by
  unfold f62_un at h
  split at h
  · injection h with h; subst h; rfl
  · cases h
/- catchpole/value.Same -/
noncomputable def f26_I : PV × PV → List SV × Obs := fun x => ([.val 30 x.1, .val 30 x.2], [])
noncomputable def f26_D : List SV → Obs → Option (PV × PV)
  | [.val 30 p1, .val 30 p2], [] => some (p1, p2)
  | _, _ => none
theorem f26_D_ok (args : List SV) (B : Obs) (x : PV × PV) (h : f26_D args B = some x) : f26_I x = (args, B) := by
  unfold f26_D at h
  split at h
  · injection h with h; subst h; rfl
  · cases h
noncomputable def f26_O : Bool → Out := (fun y => ([.bool y], []))
noncomputable def f26_un : Out → Option (Bool)
  | ([.bool y0], []) => some y0
  | _ => none
theorem f26_un_ok (o : Out) (y : Bool) (h : f26_un o = some y) : o = f26_O y := by
  unfold f26_un at h
  split at h
  · injection h with h; subst h; rfl
  · cases h
noncomputable def f62_msk : Nat → Option (List Nat) := fun key => bif key == 12 then some [1, 2, 15, 16, 17] else none
noncomputable def f62_C (c26 : PV → PV → (Bool → R) → R) : Oracle := orc 26 f26_D f26_O (fun x ret => c26 x.1 x.2 (fun y0 => ret y0)) <| orc0
noncomputable def f62_E (k : Nat) (c26 : PV → PV → (Bool → R) → R) : Env := { P := Try.prog, nilOwn := fun d => false, fldOwn := fun d i => false, ownPar := ownPars, ownRet := false, mask := f62_msk, fuel := k, C := f62_C c26 }
noncomputable def f62_code : Code := Try.f62.body.getD .skip
noncomputable def f62_cw1 : Code := subC f62_code [1, 1, 0, 1, 0, 0]
noncomputable def f62_hw1_0 (p1 : PV) (p2 : PV) (n4 : Int) : St := ⟨[.dead, .val 28 p2, .fn 26 [], .dead, .dead, .dead, .dead, .dead, .dead, .dead, .dead, .dead, .dead, .dead, .dead, .val 28 p1, .int .i64 (List.length (PV.els p1) : Int), .int .i64 n4, .dead, .dead, .dead, .dead, .dead, .dead, .dead, .dead, .dead, .dead, .dead, .dead, .dead, .dead], []⟩
noncomputable def f62_w1A (k : Nat) (c26 : PV → PV → (Bool → R) → R) (retF : Bool → R) (p1 : PV) (p2 : PV) (n4 : Int) : R := loopM (f62_E k c26) f62_cw1 (kont (f62_E k c26) f62_code [1, 1, 0, 1, 0] (endK (f62_E k c26) Try.f62 [] f62_un retF)) k (f62_hw1_0 p1 p2 n4)
noncomputable def f62_w1b0 (c26 : PV → PV → (Bool → R) → R) (ret0 : Bool → R) (next_w1_0 : Int → R) (p1 : PV) (p2 : PV) (n4 : Int) : R :=
  bif (decide (n4 < (List.length (PV.els p1) : Int))) then
    bif (true && decide ((0 : Int) ≤ n4) && decide (n4 < (List.length (PV.els p1) : Int))) then
      bif (true && decide ((0 : Int) ≤ n4) && decide (n4 < (List.length (PV.els p2) : Int))) then
        c26 (List.getD (PV.els p1) (n4).toNat PV.nil) (List.getD (PV.els p2) (n4).toNat PV.nil) fun b5 =>
        bif (!b5) then
          ret0 false
        else next_w1_0 (IntKind.wrap .i64 (n4 + (1 : Int)))
      else none
    else none
  else ret0 true

theorem f62_w1b0_mem (k : Nat) (c26 : PV → PV → (Bool → R) → R) (retF : Bool → R) (NX_w1 : St → R) (p1 : PV) (p2 : PV) (n4 : Int) : exec (f62_E k c26) f62_cw1 (purgeK (f62_E k c26) f62_cw1 (loopK NX_w1 (kont (f62_E k c26) f62_code [1, 1, 0, 1, 0] (endK (f62_E k c26) Try.f62 [] f62_un retF)))) (f62_hw1_0 p1 p2 n4) = f62_w1b0 c26 (fun y0 => retF y0) (fun n4 => NX_w1 (f62_hw1_0 p1 p2 n4)) p1 p2 n4 := by kernel_rfl

noncomputable def f62_w1b0N (k : Nat) (c26 : PV → PV → (Bool → R) → R) (ret0 : Bool → R) (next_w1_0 : Int → R) (p1 : PV) (p2 : PV) (n4 : Int) : R :=
  f62_w1b0 c26 ret0 next_w1_0 p1 p2 n4
theorem f62_w1b0_eq (k : Nat) (c26 : PV → PV → (Bool → R) → R) (retF : Bool → R) (NX_w1 : St → R) (p1 : PV) (p2 : PV) (n4 : Int) : exec (f62_E k c26) f62_cw1 (purgeK (f62_E k c26) f62_cw1 (loopK NX_w1 (kont (f62_E k c26) f62_code [1, 1, 0, 1, 0] (endK (f62_E k c26) Try.f62 [] f62_un retF)))) (f62_hw1_0 p1 p2 n4) = f62_w1b0N k c26 (fun y0 => retF y0) (fun n4 => NX_w1 (f62_hw1_0 p1 p2 n4)) p1 p2 n4 :=
  (f62_w1b0_mem k c26 retF NX_w1 p1 p2 n4)

noncomputable def f62_w1B (k : Nat) (c26 : PV → PV → (Bool → R) → R) (ret0 : Bool → R) (p1 : PV) (p2 : PV) (nx : Int → R) : Int → R := (fun s => f62_w1b0N k c26 ret0 (fun n4 => nx n4) p1 p2 s)
noncomputable def f62_w1N (k : Nat) (c26 : PV → PV → (Bool → R) → R) (ret0 : Bool → R) (p1 : PV) (p2 : PV) (n4 : Int) : R := loopR (f62_w1B k c26 ret0 p1 p2) k n4
theorem f62_w1_eq (k : Nat) (c26 : PV → PV → (Bool → R) → R) (retF : Bool → R) (p1 : PV) (p2 : PV) (n4 : Int) : f62_w1A k c26 retF p1 p2 n4 = f62_w1N k c26 (fun y0 => retF y0) p1 p2 n4 :=
  Eq.mp (by kernel_rfl) (loop_sim (E := (f62_E k c26)) (c := f62_cw1) (K := (kont (f62_E k c26) f62_code [1, 1, 0, 1, 0] (endK (f62_E k c26) Try.f62 [] f62_un retF))) (S := Int) (fun s => f62_hw1_0 p1 p2 s) (f62_w1B k c26 (fun y0 => retF y0) p1 p2) (fun NX s => by
    exact Eq.mp (by kernel_rfl) (f62_w1b0_eq k c26 retF NX p1 p2 s)) k n4)

noncomputable def f62_e (c26 : PV → PV → (Bool → R) → R) (ret0 : Bool → R) (w1 : Int → R) (p1 : PV) (p2 : PV) : R :=
  bif (!(decide ((List.length (PV.els p1) : Int) = (List.length (PV.els p2) : Int)))) then
    ret0 false
  else w1 0

theorem f62_e_mem (k : Nat) (c26 : PV → PV → (Bool → R) → R) (retF : Bool → R) (p1 : PV) (p2 : PV) : exec (f62_E k c26) f62_code (endK (f62_E k c26) Try.f62 [] f62_un retF) ⟨[.val 28 p1, .val 28 p2, .fn 26 [], .undef, .undef, .undef, .undef, .undef, .undef, .undef, .undef, .undef, .undef, .undef, .undef, .undef, .undef, .undef, .undef, .undef, .undef, .undef, .undef, .undef, .undef, .undef, .undef, .undef, .undef, .undef, .undef, .undef], []⟩ = f62_e c26 (fun y0 => retF y0) (fun n4 => f62_w1A k c26 retF p1 p2 n4) p1 p2 := by kernel_rfl

noncomputable def f62_N (k : Nat) (c26 : PV → PV → (Bool → R) → R) (ret0 : Bool → R) (p1 : PV) (p2 : PV) : R :=
  f62_e c26 ret0 (fun n4 => f62_w1N k c26 ret0 p1 p2 n4) p1 p2
theorem f62_eq (k : Nat) (c26 : PV → PV → (Bool → R) → R) (retF : Bool → R) (p1 : PV) (p2 : PV) : exec (f62_E k c26) f62_code (endK (f62_E k c26) Try.f62 [] f62_un retF) ⟨[.val 28 p1, .val 28 p2, .fn 26 [], .undef, .undef, .undef, .undef, .undef, .undef, .undef, .undef, .undef, .undef, .undef, .undef, .undef, .undef, .undef, .undef, .undef, .undef, .undef, .undef, .undef, .undef, .undef, .undef, .undef, .undef, .undef, .undef, .undef], []⟩ = f62_N k c26 (fun y0 => retF y0) p1 p2 :=
  (f62_e_mem k c26 retF p1 p2).trans (by rw [show (fun n4 => f62_w1A k c26 retF p1 p2 n4) = (fun n4 => f62_w1N k c26 (fun y0 => retF y0) p1 p2 n4) from funext fun n4 => f62_w1_eq k c26 retF p1 p2 n4]; rfl)

noncomputable def f26_msk : Nat → Option (List Nat) := fun key =>  none
noncomputable def f26_C (c62 : PV → PV → (Bool → R) → R) : Oracle := orc 62 f62_D f62_O (fun x ret => c62 x.1 x.2 (fun y0 => ret y0)) <| orc0
noncomputable def f26_E (k : Nat) (c62 : PV → PV → (Bool → R) → R) : Env := { P := Try.prog, nilOwn := fun d => false, fldOwn := fun d i => false, ownPar := ownPars, ownRet := false, mask := f26_msk, fuel := k, C := f26_C c62 }
noncomputable def f26_code : Code := Try.f26.body.getD .skip
noncomputable def f26_e (c62 : PV → PV → (Bool → R) → R) (ret0 : Bool → R) (p1 : PV) (p2 : PV) : R :=
  bif ((decide ((PV.num (PV.fld p1 0)) = (PV.num (PV.fld p2 0)))) == true) then
    bif ((decide ((PV.num (PV.fld p1 1)) = (PV.num (PV.fld p2 1)))) == true) then
      c62 (PV.fld p1 2) (PV.fld p2 2) fun b3 =>
      ret0 b3
    else ret0 false
  else ret0 false

theorem f26_e_mem (k : Nat) (c62 : PV → PV → (Bool → R) → R) (retF : Bool → R) (p1 : PV) (p2 : PV) : exec (f26_E k c62) f26_code (endK (f26_E k c62) Try.f26 [] f26_un retF) ⟨[.val 30 p1, .val 30 p2, .undef, .undef, .undef, .undef, .undef, .undef, .undef, .undef, .undef, .undef, .undef, .undef, .undef, .undef, .undef, .undef, .undef, .undef, .undef, .undef, .undef, .undef], []⟩ = f26_e c62 (fun y0 => retF y0) p1 p2 := by kernel_rfl

noncomputable def f26_N (k : Nat) (c62 : PV → PV → (Bool → R) → R) (ret0 : Bool → R) (p1 : PV) (p2 : PV) : R :=
  f26_e c62 ret0 p1 p2
theorem f26_eq (k : Nat) (c62 : PV → PV → (Bool → R) → R) (retF : Bool → R) (p1 : PV) (p2 : PV) : exec (f26_E k c62) f26_code (endK (f26_E k c62) Try.f26 [] f26_un retF) ⟨[.val 30 p1, .val 30 p2, .undef, .undef, .undef, .undef, .undef, .undef, .undef, .undef, .undef, .undef, .undef, .undef, .undef, .undef, .undef, .undef, .undef, .undef, .undef, .undef, .undef, .undef], []⟩ = f26_N k c62 (fun y0 => retF y0) p1 p2 :=
  (f26_e_mem k c62 retF p1 p2)

mutual
noncomputable def G62 : Nat → PV → PV → (Bool → R) → R
  | 0, _, _, _ => none
  | k + 1, p1, p2, ret0 => f62_N k (G26 k) ret0 p1 p2
noncomputable def G26 : Nat → PV → PV → (Bool → R) → R
  | 0, _, _, _ => none
  | k + 1, p1, p2, ret0 => f26_N k (G62 k) ret0 p1 p2
end
mutual
theorem S62 : ∀ k, Snd Try.prog 62 f62_I f62_O (fun x ret => G62 k x.1 x.2 (fun y0 => ret y0))
  | 0 => snd_none
  | k + 1 => snd_step (E := f62_E k (G26 k)) rfl laidOut noNums (orc_ok (S26 k).o f26_D_ok orc0_ok) (f := 62) (fn := Try.f62) (code := f62_code) Try.func62 (by kernel_rfl) (drawsOk_of laidOut (orc_ok (S26 k).o f26_D_ok orc0_ok) mixed (by kernel_rfl)) f62_un f62_un_ok [] (fun _ => rfl)
      (fun x ret => f62_eq k (G26 k) ret x.1 x.2)
theorem S26 : ∀ k, Snd Try.prog 26 f26_I f26_O (fun x ret => G26 k x.1 x.2 (fun y0 => ret y0))
  | 0 => snd_none
  | k + 1 => snd_step (E := f26_E k (G62 k)) rfl laidOut noNums (orc_ok (S62 k).o f62_D_ok orc0_ok) (f := 26) (fn := Try.f26) (code := f26_code) Try.func26 (by kernel_rfl) (drawsOk_of laidOut (orc_ok (S62 k).o f62_D_ok orc0_ok) mixed (by kernel_rfl)) f26_un f26_un_ok [] (fun _ => rfl)
      (fun x ret => f26_eq k (G62 k) ret x.1 x.2)
end

/- catchpole/catchpolelaw10.ValueKnown -/
noncomputable def f6_I : Unit → List SV × Obs := fun x => ([], [])
noncomputable def f6_D : List SV → Obs → Option (Unit)
  | [], [] => some ()
  | _, _ => none
theorem f6_D_ok (args : List SV) (B : Obs) (x : Unit) (h : f6_D args B = some x) : f6_I x = (args, B) := by
  unfold f6_D at h
  split at h
  · injection h with h; subst h; rfl
  · cases h
noncomputable def f6_O : Bool → Out := (fun y => ([.bool y], []))
noncomputable def f6_un : Out → Option (Bool)
  | ([.bool y0], []) => some y0
  | _ => none
theorem f6_un_ok (o : Out) (y : Bool) (h : f6_un o = some y) : o = f6_O y := by
  unfold f6_un at h
  split at h
  · injection h with h; subst h; rfl
  · cases h
noncomputable def f6_msk : Nat → Option (List Nat) := fun key => bif key == 36 then some [1, 2, 3, 4, 5, 6, 7, 8, 9, 10] else none
noncomputable def f6_C (c13 : (Bool → R) → R) (c18 : PV → PV → (Bool → R) → R) (c19 : PV → PV → (PV → R) → R) (c20 : PV → (PV → R) → R) (c21 : Int → PV → (PV → R) → R) (c22 : PV → (PV → R) → R) (c23 : PV → (Int → R) → R) (c24 : PV → (Int → R) → R) (c25 : PV → ((List Int) → R) → R) (c26 : PV → PV → (Bool → R) → R) (c27 : PV → (PV → R) → R) (c28 : PV → (PV → R) → R) (c29 : (PV → R) → R) (c30 : Int → Int → (PV → R) → R) (c31 : PV → PV → (Bool → R) → R) : Oracle := orc 13 f13_D f13_O (fun x ret => c13 (fun y0 => ret y0)) <| orc 18 f18_D f18_O (fun x ret => c18 x.1 x.2 (fun y0 => ret y0)) <| orc 19 f19_D f19_O (fun x ret => c19 x.1 x.2 (fun y0 => ret y0)) <| orc 20 f20_D f20_O (fun x ret => c20 x (fun y0 => ret y0)) <| orc 21 f21_D f21_O (fun x ret => c21 x.1 x.2 (fun y0 => ret y0)) <| orc 22 f22_D f22_O (fun x ret => c22 x (fun y0 => ret y0)) <| orc 23 f23_D f23_O (fun x ret => c23 x (fun y0 => ret y0)) <| orc 24 f24_D f24_O (fun x ret => c24 x (fun y0 => ret y0)) <| orc 25 f25_D f25_O (fun x ret => c25 x (fun y0 => ret y0)) <| orc 26 f26_D f26_O (fun x ret => c26 x.1 x.2 (fun y0 => ret y0)) <| orc 27 f27_D f27_O (fun x ret => c27 x (fun y0 => ret y0)) <| orc 28 f28_D f28_O (fun x ret => c28 x (fun y0 => ret y0)) <| orc 29 f29_D f29_O (fun x ret => c29 (fun y0 => ret y0)) <| orc 30 f30_D f30_O (fun x ret => c30 x.1 x.2 (fun y0 => ret y0)) <| orc 31 f31_D f31_O (fun x ret => c31 x.1 x.2 (fun y0 => ret y0)) <| orc0
noncomputable def f6_E (k : Nat) (c13 : (Bool → R) → R) (c18 : PV → PV → (Bool → R) → R) (c19 : PV → PV → (PV → R) → R) (c20 : PV → (PV → R) → R) (c21 : Int → PV → (PV → R) → R) (c22 : PV → (PV → R) → R) (c23 : PV → (Int → R) → R) (c24 : PV → (Int → R) → R) (c25 : PV → ((List Int) → R) → R) (c26 : PV → PV → (Bool → R) → R) (c27 : PV → (PV → R) → R) (c28 : PV → (PV → R) → R) (c29 : (PV → R) → R) (c30 : Int → Int → (PV → R) → R) (c31 : PV → PV → (Bool → R) → R) : Env := { P := Try.prog, nilOwn := fun d => false, fldOwn := fun d i => false, ownPar := ownPars, ownRet := false, mask := f6_msk, fuel := k, C := f6_C c13 c18 c19 c20 c21 c22 c23 c24 c25 c26 c27 c28 c29 c30 c31 }
noncomputable def f6_code : Code := Try.f6.body.getD .skip
noncomputable def G6 (k : Nat) (ret0 : Bool → R) : R := exec (f6_E k (G13 k) (G18 k) (G19 k) (G20 k) (G21 k) (G22 k) (G23 k) (G24 k) (G25 k) (G26 k) (G27 k) (G28 k) (G29 k) (G30 k) (G31 k)) f6_code (endK (f6_E k (G13 k) (G18 k) (G19 k) (G20 k) (G21 k) (G22 k) (G23 k) (G24 k) (G25 k) (G26 k) (G27 k) (G28 k) (G29 k) (G30 k) (G31 k)) Try.f6 [] f6_un ret0) { T := (f6_I ()).1 ++ List.replicate (Try.f6.ntmps - (f6_I ()).1.length) .undef, B := (f6_I ()).2 }
theorem S6 : ∀ k, Snd Try.prog 6 f6_I f6_O (fun x ret => G6 k (fun y0 => ret y0)) := fun k =>
  snd_step (E := f6_E k (G13 k) (G18 k) (G19 k) (G20 k) (G21 k) (G22 k) (G23 k) (G24 k) (G25 k) (G26 k) (G27 k) (G28 k) (G29 k) (G30 k) (G31 k)) rfl laidOut noNums (orc_ok (S13 k).o f13_D_ok (orc_ok (S18 k).o f18_D_ok (orc_ok (S19 k).o f19_D_ok (orc_ok (S20 k).o f20_D_ok (orc_ok (S21 k).o f21_D_ok (orc_ok (S22 k).o f22_D_ok (orc_ok (S23 k).o f23_D_ok (orc_ok (S24 k).o f24_D_ok (orc_ok (S25 k).o f25_D_ok (orc_ok (S26 k).o f26_D_ok (orc_ok (S27 k).o f27_D_ok (orc_ok (S28 k).o f28_D_ok (orc_ok (S29 k).o f29_D_ok (orc_ok (S30 k).o f30_D_ok (orc_ok (S31 k).o f31_D_ok orc0_ok))))))))))))))) (f := 6) (fn := Try.f6) (code := f6_code) Try.func6 (by kernel_rfl) (drawsOk_of laidOut (orc_ok (S13 k).o f13_D_ok (orc_ok (S18 k).o f18_D_ok (orc_ok (S19 k).o f19_D_ok (orc_ok (S20 k).o f20_D_ok (orc_ok (S21 k).o f21_D_ok (orc_ok (S22 k).o f22_D_ok (orc_ok (S23 k).o f23_D_ok (orc_ok (S24 k).o f24_D_ok (orc_ok (S25 k).o f25_D_ok (orc_ok (S26 k).o f26_D_ok (orc_ok (S27 k).o f27_D_ok (orc_ok (S28 k).o f28_D_ok (orc_ok (S29 k).o f29_D_ok (orc_ok (S30 k).o f30_D_ok (orc_ok (S31 k).o f31_D_ok orc0_ok))))))))))))))) mixed (by kernel_rfl)) f6_un f6_un_ok [] (fun _ => rfl) (fun x ret => rfl)

end Go.Proofs.Ytbellpoahhhmhaa
