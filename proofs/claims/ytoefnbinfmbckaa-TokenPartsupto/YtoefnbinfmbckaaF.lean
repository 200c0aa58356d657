/- Functions of the program as Lean functions, each tied to the program by the kernel: catchpolelaw4.TokenEscapes, catchpolelaw4.TokenCounts, catchpolelaw4.TokenParts -/
import Derived.Test.YtoefnbinfmbckaaXC
import Derived.Test.YtoefnbinfmbckaaProg
import Derived.KernelRfl
import Derived.Test.YtoefnbinfmbckaaTkX
set_option linter.unusedVariables false
set_option maxRecDepth 100000
namespace Go.Proofs.Ytoefnbinfmbckaa
open Go Go.X
theorem laidOut : laidOutB Try.prog = true := by kernel_rfl
theorem noNums : noNum Try.prog = true := by kernel_rfl
theorem mixed : Try.prog.follows .mixedOrders = true := by kernel_rfl
noncomputable def ownPars : FuncId → Nat → Bool := fun f i => false

/- internal/stringslite.HasPrefix -/
noncomputable def f27_I : (List Int) × (List Int) → List SV × Obs := fun x => ([.str x.1, .str x.2], [])
noncomputable def f27_D : List SV → Obs → Option ((List Int) × (List Int))
  | [.str s1, .str s2], [] => some (s1, s2)
  | _, _ => none
theorem f27_D_ok (args : List SV) (B : Obs) (x : (List Int) × (List Int)) (h : f27_D args B = some x) : f27_I x = (args, B) := by
  unfold f27_D at h
  split at h
  · injection h with h; subst h; rfl
  · cases h
noncomputable def f27_O : Bool → Out := (fun y => ([.bool y], []))
noncomputable def f27_un : Out → Option (Bool)
  | ([.bool y0], []) => some y0
  | _ => none
theorem f27_un_ok (o : Out) (y : Bool) (h : f27_un o = some y) : o = f27_O y := by
  unfold f27_un at h
  split at h
  · injection h with h; subst h; rfl
  · cases h
noncomputable def f27_msk : Nat → Option (List Nat) := fun key =>  none
noncomputable def f27_C : Oracle := orc0
noncomputable def f27_E (k : Nat) : Env := { P := Try.prog, nilOwn := fun d => false, fldOwn := fun d i => false, ownPar := ownPars, ownRet := false, mask := f27_msk, fuel := k, C := f27_C }
noncomputable def f27_code : Code := Try.f27.body.getD .skip
noncomputable def f27_e (ret0 : Bool → R) (s1 : List Int) (s2 : List Int) : R :=
  bif ((decide ((List.length s2 : Int) ≤ (List.length s1 : Int))) == true) then
    bif (decide ((0 : Int) ≤ (0 : Int)) && decide ((0 : Int) ≤ (List.length s2 : Int)) && decide ((List.length s2 : Int) ≤ (List.length s1 : Int))) then
      let b3 : Bool := (decide (((List.drop ((0 : Int)).toNat (List.take ((List.length s2 : Int)).toNat s1)) : List Int) = s2))
      ret0 b3
    else none
  else ret0 false

theorem f27_e_mem (k : Nat) (retF : Bool → R) (s1 : List Int) (s2 : List Int) : exec (f27_E k) f27_code (endK (f27_E k) Try.f27 [] f27_un retF) ⟨[.str s1, .str s2, .undef, .undef, .undef, .undef, .undef, .undef, .undef, .undef, .undef, .undef, .undef, .undef, .undef, .undef, .undef, .undef], []⟩ = f27_e (fun y0 => retF y0) s1 s2 := by kernel_rfl

noncomputable def f27_N (k : Nat) (ret0 : Bool → R) (s1 : List Int) (s2 : List Int) : R :=
  f27_e ret0 s1 s2
theorem f27_eq (k : Nat) (retF : Bool → R) (s1 : List Int) (s2 : List Int) : exec (f27_E k) f27_code (endK (f27_E k) Try.f27 [] f27_un retF) ⟨[.str s1, .str s2, .undef, .undef, .undef, .undef, .undef, .undef, .undef, .undef, .undef, .undef, .undef, .undef, .undef, .undef, .undef, .undef], []⟩ = f27_N k (fun y0 => retF y0) s1 s2 :=
  (f27_e_mem k retF s1 s2)

noncomputable def G27 : Nat → (List Int) → (List Int) → (Bool → R) → R
  | 0, _, _, _ => none
  | k + 1, s1, s2, ret0 => f27_N k  ret0 s1 s2
theorem S27 : ∀ k, Snd Try.prog 27 f27_I f27_O (fun x ret => G27 k x.1 x.2 (fun y0 => ret y0))
  | 0 => snd_none
  | k + 1 => snd_step (E := f27_E k ) rfl laidOut noNums orc0_ok (f := 27) (fn := Try.f27) (code := f27_code) Try.func27 (by kernel_rfl) (drawsOk_of laidOut orc0_ok mixed (by kernel_rfl)) f27_un f27_un_ok [] (fun _ => rfl)
      (fun x ret => f27_eq k  ret x.1 x.2)

/- strings.HasPrefix -/
noncomputable def f22_I : (List Int) × (List Int) → List SV × Obs := fun x => ([.str x.1, .str x.2], [])
noncomputable def f22_D : List SV → Obs → Option ((List Int) × (List Int))
  | [.str s1, .str s2], [] => some (s1, s2)
  | _, _ => none
theorem f22_D_ok (args : List SV) (B : Obs) (x : (List Int) × (List Int)) (h : f22_D args B = some x) : f22_I x = (args, B) := by
  unfold f22_D at h
  split at h
  · injection h with h; subst h; rfl
  · cases h
noncomputable def f22_O : Bool → Out := (fun y => ([.bool y], []))
noncomputable def f22_un : Out → Option (Bool)
  | ([.bool y0], []) => some y0
  | _ => none
theorem f22_un_ok (o : Out) (y : Bool) (h : f22_un o = some y) : o = f22_O y := by
  unfold f22_un at h
  split at h
  · injection h with h; subst h; rfl
  · cases h
noncomputable def f22_msk : Nat → Option (List Nat) := fun key =>  none
noncomputable def f22_C (c27 : (List Int) → (List Int) → (Bool → R) → R) : Oracle := orc 27 f27_D f27_O (fun x ret => c27 x.1 x.2 (fun y0 => ret y0)) <| orc0
noncomputable def f22_E (k : Nat) (c27 : (List Int) → (List Int) → (Bool → R) → R) : Env := { P := Try.prog, nilOwn := fun d => false, fldOwn := fun d i => false, ownPar := ownPars, ownRet := false, mask := f22_msk, fuel := k, C := f22_C c27 }
noncomputable def f22_code : Code := Try.f22.body.getD .skip
noncomputable def f22_e (c27 : (List Int) → (List Int) → (Bool → R) → R) (ret0 : Bool → R) (s1 : List Int) (s2 : List Int) : R :=
  c27 s1 s2 fun b3 =>
  ret0 b3

theorem f22_e_mem (k : Nat) (c27 : (List Int) → (List Int) → (Bool → R) → R) (retF : Bool → R) (s1 : List Int) (s2 : List Int) : exec (f22_E k c27) f22_code (endK (f22_E k c27) Try.f22 [] f22_un retF) ⟨[.str s1, .str s2, .undef, .undef, .undef, .undef, .undef, .undef], []⟩ = f22_e c27 (fun y0 => retF y0) s1 s2 := by kernel_rfl

noncomputable def f22_N (k : Nat) (c27 : (List Int) → (List Int) → (Bool → R) → R) (ret0 : Bool → R) (s1 : List Int) (s2 : List Int) : R :=
  f22_e c27 ret0 s1 s2
theorem f22_eq (k : Nat) (c27 : (List Int) → (List Int) → (Bool → R) → R) (retF : Bool → R) (s1 : List Int) (s2 : List Int) : exec (f22_E k c27) f22_code (endK (f22_E k c27) Try.f22 [] f22_un retF) ⟨[.str s1, .str s2, .undef, .undef, .undef, .undef, .undef, .undef], []⟩ = f22_N k c27 (fun y0 => retF y0) s1 s2 :=
  (f22_e_mem k c27 retF s1 s2)

noncomputable def G22 : Nat → (List Int) → (List Int) → (Bool → R) → R
  | 0, _, _, _ => none
  | k + 1, s1, s2, ret0 => f22_N k (G27 k) ret0 s1 s2
theorem S22 : ∀ k, Snd Try.prog 22 f22_I f22_O (fun x ret => G22 k x.1 x.2 (fun y0 => ret y0))
  | 0 => snd_none
  | k + 1 => snd_step (E := f22_E k (G27 k)) rfl laidOut noNums (orc_ok (S27 k).o f27_D_ok orc0_ok) (f := 22) (fn := Try.f22) (code := f22_code) Try.func22 (by kernel_rfl) (drawsOk_of laidOut (orc_ok (S27 k).o f27_D_ok orc0_ok) mixed (by kernel_rfl)) f22_un f22_un_ok [] (fun _ => rfl)
      (fun x ret => f22_eq k (G27 k) ret x.1 x.2)

/- (*catchpole/token.cutter).is -/
noncomputable def f16_I : (List Int) × PV → List SV × Obs := fun x => ([.ptr 2000000 [], .str x.1], [(2000000, .box 48 (.val 48 x.2))])
noncomputable def f16_D : List SV → Obs → Option ((List Int) × PV)
  | [.ptr 2000000 [], .str s1], [(2000000, .box 48 (.val 48 p2))] => some (s1, p2)
  | _, _ => none
theorem f16_D_ok (args : List SV) (B : Obs) (x : (List Int) × PV) (h : f16_D args B = some x) : f16_I x = (args, B) := by
  unfold f16_D at h
  split at h
  · injection h with h; subst h; rfl
  · cases h
noncomputable def f16_O : Bool × PV → Out := (fun y => ([.bool y.1], [(2000000, .box 48 (.val 48 y.2))]))
noncomputable def f16_un : Out → Option (Bool × PV)
  | ([.bool y0], [(2000000, .box 48 (.val 48 y1))]) => some (y0, y1)
  | _ => none
theorem f16_un_ok (o : Out) (y : Bool × PV) (h : f16_un o = some y) : o = f16_O y := by
  unfold f16_un at h
  split at h
  · injection h with h; subst h; rfl
  · cases h
noncomputable def f16_msk : Nat → Option (List Nat) := fun key =>  none
noncomputable def f16_C (c22 : (List Int) → (List Int) → (Bool → R) → R) : Oracle := orc 22 f22_D f22_O (fun x ret => c22 x.1 x.2 (fun y0 => ret y0)) <| orc0
noncomputable def f16_E (k : Nat) (c22 : (List Int) → (List Int) → (Bool → R) → R) : Env := { P := Try.prog, nilOwn := fun d => false, fldOwn := fun d i => false, ownPar := ownPars, ownRet := false, mask := f16_msk, fuel := k, C := f16_C c22 }
noncomputable def f16_code : Code := Try.f16.body.getD .skip
noncomputable def f16_e (c22 : (List Int) → (List Int) → (Bool → R) → R) (ret0 : Bool → PV → R) (s1 : List Int) (p2 : PV) : R :=
  bif (decide ((0 : Int) ≤ (PV.num (PV.fld p2 1))) && decide ((PV.num (PV.fld p2 1)) ≤ (List.length (PV.chars (PV.fld p2 0)) : Int)) && decide ((List.length (PV.chars (PV.fld p2 0)) : Int) ≤ (List.length (PV.chars (PV.fld p2 0)) : Int))) then
    let s3 : List Int := (List.drop ((PV.num (PV.fld p2 1))).toNat (List.take ((List.length (PV.chars (PV.fld p2 0)) : Int)).toNat (PV.chars (PV.fld p2 0))))
    c22 s3 s1 fun b4 =>
    bif (!b4) then
      ret0 false p2
    else let p5 : PV := (PV.agg (List.set (PV.flds p2) 1 (PV.int (IntKind.wrap .i64 ((PV.num (PV.fld p2 1)) + (List.length s1 : Int))))))
    ret0 true p5
  else none

theorem f16_e_mem (k : Nat) (c22 : (List Int) → (List Int) → (Bool → R) → R) (retF : Bool × PV → R) (s1 : List Int) (p2 : PV) : exec (f16_E k c22) f16_code (endK (f16_E k c22) Try.f16 [2000000] f16_un retF) ⟨[.ptr 2000000 [], .str s1, .undef, .undef, .undef, .undef, .undef, .undef, .undef, .undef, .undef, .undef, .undef, .undef, .undef, .undef, .undef, .undef, .undef, .undef, .undef, .undef, .undef, .undef, .undef, .undef], [(2000000, .box 48 (.val 48 p2))]⟩ = f16_e c22 (fun y0 y1 => retF (y0, y1)) s1 p2 := by kernel_rfl

noncomputable def f16_N (k : Nat) (c22 : (List Int) → (List Int) → (Bool → R) → R) (ret0 : Bool → PV → R) (s1 : List Int) (p2 : PV) : R :=
  f16_e c22 ret0 s1 p2
theorem f16_eq (k : Nat) (c22 : (List Int) → (List Int) → (Bool → R) → R) (retF : Bool × PV → R) (s1 : List Int) (p2 : PV) : exec (f16_E k c22) f16_code (endK (f16_E k c22) Try.f16 [2000000] f16_un retF) ⟨[.ptr 2000000 [], .str s1, .undef, .undef, .undef, .undef, .undef, .undef, .undef, .undef, .undef, .undef, .undef, .undef, .undef, .undef, .undef, .undef, .undef, .undef, .undef, .undef, .undef, .undef, .undef, .undef], [(2000000, .box 48 (.val 48 p2))]⟩ = f16_N k c22 (fun y0 y1 => retF (y0, y1)) s1 p2 :=
  (f16_e_mem k c22 retF s1 p2)

noncomputable def G16 : Nat → (List Int) → PV → (Bool → PV → R) → R
  | 0, _, _, _ => none
  | k + 1, s1, p2, ret0 => f16_N k (G22 k) ret0 s1 p2
theorem S16 : ∀ k, Snd Try.prog 16 f16_I f16_O (fun x ret => G16 k x.1 x.2 (fun y0 y1 => ret (y0, y1)))
  | 0 => snd_none
  | k + 1 => snd_step (E := f16_E k (G22 k)) rfl laidOut noNums (orc_ok (S22 k).o f22_D_ok orc0_ok) (f := 16) (fn := Try.f16) (code := f16_code) Try.func16 (by kernel_rfl) (drawsOk_of laidOut (orc_ok (S22 k).o f22_D_ok orc0_ok) mixed (by kernel_rfl)) f16_un f16_un_ok [2000000] (fun _ => rfl)
      (fun x ret => f16_eq k (G22 k) ret x.1 x.2)

/- internal/bytealg.IndexByteString -/
noncomputable def f32_I : (List Int) × Int → List SV × Obs := fun x => ([.str x.1, .int .u8 x.2], [])
noncomputable def f32_D : List SV → Obs → Option ((List Int) × Int)
  | [.str s1, .int .u8 n2], [] => some (s1, n2)
  | _, _ => none
theorem f32_D_ok (args : List SV) (B : Obs) (x : (List Int) × Int) (h : f32_D args B = some x) : f32_I x = (args, B) := by
  unfold f32_D at h
  split at h
  · injection h with h; subst h; rfl
  · cases h
noncomputable def f32_O : Int → Out := (fun y => ([.int .i64 y], []))
noncomputable def f32_un : Out → Option (Int)
  | ([.int .i64 y0], []) => some y0
  | _ => none
theorem f32_un_ok (o : Out) (y : Int) (h : f32_un o = some y) : o = f32_O y := by
  unfold f32_un at h
  split at h
  · injection h with h; subst h; rfl
  · cases h

noncomputable def G32 : Nat → (List Int) → Int → (Int → R) → R
  | _, p, c, ret0 => ret0 (idxB p c)
theorem S32 : ∀ k, SndO Try.prog 32 f32_I f32_O (fun x ret => G32 k x.1 x.2 (fun y0 => ret y0)) := fun k => Tkx.idx_o Try.func32 (by kernel_rfl) (by kernel_rfl) (by kernel_rfl) (by kernel_rfl)

/- internal/stringslite.IndexByte -/
noncomputable def f26_I : (List Int) × Int → List SV × Obs := fun x => ([.str x.1, .int .u8 x.2], [])
noncomputable def f26_D : List SV → Obs → Option ((List Int) × Int)
  | [.str s1, .int .u8 n2], [] => some (s1, n2)
  | _, _ => none
theorem f26_D_ok (args : List SV) (B : Obs) (x : (List Int) × Int) (h : f26_D args B = some x) : f26_I x = (args, B) := by
  unfold f26_D at h
  split at h
  · injection h with h; subst h; rfl
  · cases h
noncomputable def f26_O : Int → Out := (fun y => ([.int .i64 y], []))
noncomputable def f26_un : Out → Option (Int)
  | ([.int .i64 y0], []) => some y0
  | _ => none
theorem f26_un_ok (o : Out) (y : Int) (h : f26_un o = some y) : o = f26_O y := by
  unfold f26_un at h
  split at h
  · injection h with h; subst h; rfl
  · cases h
noncomputable def f26_msk : Nat → Option (List Nat) := fun key =>  none
noncomputable def f26_C (c32 : (List Int) → Int → (Int → R) → R) : Oracle := orc 32 f32_D f32_O (fun x ret => c32 x.1 x.2 (fun y0 => ret y0)) <| orc0
noncomputable def f26_E (k : Nat) (c32 : (List Int) → Int → (Int → R) → R) : Env := { P := Try.prog, nilOwn := fun d => false, fldOwn := fun d i => false, ownPar := ownPars, ownRet := false, mask := f26_msk, fuel := k, C := f26_C c32 }
noncomputable def f26_code : Code := Try.f26.body.getD .skip
noncomputable def f26_e (c32 : (List Int) → Int → (Int → R) → R) (ret0 : Int → R) (s1 : List Int) (n2 : Int) : R :=
  c32 s1 n2 fun n3 =>
  ret0 n3

theorem f26_e_mem (k : Nat) (c32 : (List Int) → Int → (Int → R) → R) (retF : Int → R) (s1 : List Int) (n2 : Int) : exec (f26_E k c32) f26_code (endK (f26_E k c32) Try.f26 [] f26_un retF) ⟨[.str s1, .int .u8 n2, .undef, .undef, .undef, .undef, .undef, .undef], []⟩ = f26_e c32 (fun y0 => retF y0) s1 n2 := by kernel_rfl

noncomputable def f26_N (k : Nat) (c32 : (List Int) → Int → (Int → R) → R) (ret0 : Int → R) (s1 : List Int) (n2 : Int) : R :=
  f26_e c32 ret0 s1 n2
theorem f26_eq (k : Nat) (c32 : (List Int) → Int → (Int → R) → R) (retF : Int → R) (s1 : List Int) (n2 : Int) : exec (f26_E k c32) f26_code (endK (f26_E k c32) Try.f26 [] f26_un retF) ⟨[.str s1, .int .u8 n2, .undef, .undef, .undef, .undef, .undef, .undef], []⟩ = f26_N k c32 (fun y0 => retF y0) s1 n2 :=
  (f26_e_mem k c32 retF s1 n2)

noncomputable def G26 : Nat → (List Int) → Int → (Int → R) → R
  | 0, _, _, _ => none
  | k + 1, s1, n2, ret0 => f26_N k (G32 k) ret0 s1 n2
theorem S26 : ∀ k, Snd Try.prog 26 f26_I f26_O (fun x ret => G26 k x.1 x.2 (fun y0 => ret y0))
  | 0 => snd_none
  | k + 1 => snd_step (E := f26_E k (G32 k)) rfl laidOut noNums (orc_ok (S32 k).o f32_D_ok orc0_ok) (f := 26) (fn := Try.f26) (code := f26_code) Try.func26 (by kernel_rfl) (drawsOk_of laidOut (orc_ok (S32 k).o f32_D_ok orc0_ok) mixed (by kernel_rfl)) f26_un f26_un_ok [] (fun _ => rfl)
      (fun x ret => f26_eq k (G32 k) ret x.1 x.2)

/- strings.IndexByte -/
noncomputable def f20_I : (List Int) × Int → List SV × Obs := fun x => ([.str x.1, .int .u8 x.2], [])
noncomputable def f20_D : List SV → Obs → Option ((List Int) × Int)
  | [.str s1, .int .u8 n2], [] => some (s1, n2)
  | _, _ => none
theorem f20_D_ok (args : List SV) (B : Obs) (x : (List Int) × Int) (h : f20_D args B = some x) : f20_I x = (args, B) := by
  unfold f20_D at h
  split at h
  · injection h with h; subst h; rfl
  · cases h
noncomputable def f20_O : Int → Out := (fun y => ([.int .i64 y], []))
noncomputable def f20_un : Out → Option (Int)
  | ([.int .i64 y0], []) => some y0
  | _ => none
theorem f20_un_ok (o : Out) (y : Int) (h : f20_un o = some y) : o = f20_O y := by
  unfold f20_un at h
  split at h
  · injection h with h; subst h; rfl
  · cases h
noncomputable def f20_msk : Nat → Option (List Nat) := fun key =>  none
noncomputable def f20_C (c26 : (List Int) → Int → (Int → R) → R) : Oracle := orc 26 f26_D f26_O (fun x ret => c26 x.1 x.2 (fun y0 => ret y0)) <| orc0
noncomputable def f20_E (k : Nat) (c26 : (List Int) → Int → (Int → R) → R) : Env := { P := Try.prog, nilOwn := fun d => false, fldOwn := fun d i => false, ownPar := ownPars, ownRet := false, mask := f20_msk, fuel := k, C := f20_C c26 }
noncomputable def f20_code : Code := Try.f20.body.getD .skip
noncomputable def f20_e (c26 : (List Int) → Int → (Int → R) → R) (ret0 : Int → R) (s1 : List Int) (n2 : Int) : R :=
  c26 s1 n2 fun n3 =>
  ret0 n3

theorem f20_e_mem (k : Nat) (c26 : (List Int) → Int → (Int → R) → R) (retF : Int → R) (s1 : List Int) (n2 : Int) : exec (f20_E k c26) f20_code (endK (f20_E k c26) Try.f20 [] f20_un retF) ⟨[.str s1, .int .u8 n2, .undef, .undef, .undef, .undef, .undef, .undef], []⟩ = f20_e c26 (fun y0 => retF y0) s1 n2 := by kernel_rfl

noncomputable def f20_N (k : Nat) (c26 : (List Int) → Int → (Int → R) → R) (ret0 : Int → R) (s1 : List Int) (n2 : Int) : R :=
  f20_e c26 ret0 s1 n2
theorem f20_eq (k : Nat) (c26 : (List Int) → Int → (Int → R) → R) (retF : Int → R) (s1 : List Int) (n2 : Int) : exec (f20_E k c26) f20_code (endK (f20_E k c26) Try.f20 [] f20_un retF) ⟨[.str s1, .int .u8 n2, .undef, .undef, .undef, .undef, .undef, .undef], []⟩ = f20_N k c26 (fun y0 => retF y0) s1 n2 :=
  (f20_e_mem k c26 retF s1 n2)

noncomputable def G20 : Nat → (List Int) → Int → (Int → R) → R
  | 0, _, _, _ => none
  | k + 1, s1, n2, ret0 => f20_N k (G26 k) ret0 s1 n2
theorem S20 : ∀ k, Snd Try.prog 20 f20_I f20_O (fun x ret => G20 k x.1 x.2 (fun y0 => ret y0))
  | 0 => snd_none
  | k + 1 => snd_step (E := f20_E k (G26 k)) rfl laidOut noNums (orc_ok (S26 k).o f26_D_ok orc0_ok) (f := 20) (fn := Try.f20) (code := f20_code) Try.func20 (by kernel_rfl) (drawsOk_of laidOut (orc_ok (S26 k).o f26_D_ok orc0_ok) mixed (by kernel_rfl)) f20_un f20_un_ok [] (fun _ => rfl)
      (fun x ret => f20_eq k (G26 k) ret x.1 x.2)

/- (*catchpole/token.cutter).number -/
noncomputable def f23_I : PV → List SV × Obs := fun x => ([.ptr 2000000 []], [(2000000, .box 48 (.val 48 x))])
noncomputable def f23_D : List SV → Obs → Option (PV)
  | [.ptr 2000000 []], [(2000000, .box 48 (.val 48 p1))] => some p1
  | _, _ => none
theorem f23_D_ok (args : List SV) (B : Obs) (x : PV) (h : f23_D args B = some x) : f23_I x = (args, B) := by
  unfold f23_D at h
  split at h
  · injection h with h; subst h; rfl
  · cases h
noncomputable def f23_O : Int × Bool × PV → Out := (fun y => ([.int .i64 y.1, .bool y.2.1], [(2000000, .box 48 (.val 48 y.2.2))]))
noncomputable def f23_un : Out → Option (Int × Bool × PV)
  | ([.int .i64 y0, .bool y1], [(2000000, .box 48 (.val 48 y2))]) => some (y0, y1, y2)
  | _ => none
theorem f23_un_ok (o : Out) (y : Int × Bool × PV) (h : f23_un o = some y) : o = f23_O y := by
  unfold f23_un at h
  split at h
  · injection h with h; subst h; rfl
  · cases h
noncomputable def f23_msk : Nat → Option (List Nat) := fun key => bif key == 6 then some [0, 4, 5] else none
noncomputable def f23_C (c20 : (List Int) → Int → (Int → R) → R) : Oracle := orc 20 f20_D f20_O (fun x ret => c20 x.1 x.2 (fun y0 => ret y0)) <| orc0
noncomputable def f23_E (k : Nat) (c20 : (List Int) → Int → (Int → R) → R) : Env := { P := Try.prog, nilOwn := fun d => false, fldOwn := fun d i => false, ownPar := ownPars, ownRet := false, mask := f23_msk, fuel := k, C := f23_C c20 }
noncomputable def f23_code : Code := Try.f23.body.getD .skip
noncomputable def f23_cw1 : Code := subC f23_code [1, 1, 0, 0, 0]
noncomputable def f23_hw1_0 (p1 : PV) (n5 : Int) (p6 : PV) : St := ⟨[.ptr 2000000 [], .dead, .dead, .dead, .int .i64 n5, .int .i64 (PV.num (PV.fld p1 1)), .dead, .dead, .dead, .dead, .dead, .dead, .dead, .dead, .dead, .dead, .dead, .dead, .dead, .dead, .dead, .dead, .dead, .dead, .dead, .dead, .dead, .dead, .dead, .dead, .dead, .dead, .dead, .dead, .dead, .dead, .dead, .dead, .dead, .dead, .dead, .dead, .dead, .dead, .dead, .dead, .dead, .dead, .dead, .dead, .dead, .dead, .dead, .dead, .dead, .dead, .dead, .dead, .dead, .dead, .dead, .dead], [(2000000, .box 48 (.val 48 p6))]⟩
noncomputable def f23_w1A (k : Nat) (c20 : (List Int) → Int → (Int → R) → R) (retF : Int × Bool × PV → R) (p1 : PV) (n5 : Int) (p6 : PV) : R := loopM (f23_E k c20) f23_cw1 (kont (f23_E k c20) f23_code [1, 1, 0, 0] (endK (f23_E k c20) Try.f23 [2000000] f23_un retF)) k (f23_hw1_0 p1 n5 p6)
noncomputable def f23_w1b0 (c20 : (List Int) → Int → (Int → R) → R) (ret0 : Int → Bool → PV → R) (next_w1_0 : Int → PV → R) (p1 : PV) (n5 : Int) (p6 : PV) : R :=
  bif ((decide ((PV.num (PV.fld p6 1)) < (List.length (PV.chars (PV.fld p6 0)) : Int))) == true) then
    bif (decide ((0 : Int) ≤ (PV.num (PV.fld p6 1))) && decide ((PV.num (PV.fld p6 1)) < (List.length (PV.chars (PV.fld p6 0)) : Int))) then
      c20 [48, 49, 50, 51, 52, 53, 54, 55, 56, 57] (List.getD (PV.chars (PV.fld p6 0)) ((PV.num (PV.fld p6 1))).toNat 0) fun n7 =>
      bif (decide ((0 : Int) ≤ n7)) then
        bif (decide ((0 : Int) ≤ (PV.num (PV.fld p6 1))) && decide ((PV.num (PV.fld p6 1)) < (List.length (PV.chars (PV.fld p6 0)) : Int))) then
          let n8 : Int := (IntKind.wrap .u8 ((List.getD (PV.chars (PV.fld p6 0)) ((PV.num (PV.fld p6 1))).toNat 0) - (48 : Int)))
          let n9 : Int := (if (256 : Int) < (IntKind.wrap .i64 ((IntKind.wrap .i64 ((10 : Int) * n5)) + (IntKind.wrap .i64 n8))) then 256 else (IntKind.wrap .i64 ((IntKind.wrap .i64 ((10 : Int) * n5)) + (IntKind.wrap .i64 n8))))
          next_w1_0 n9 (PV.agg (List.set (PV.flds p6) 1 (PV.int (IntKind.wrap .i64 ((PV.num (PV.fld p6 1)) + (1 : Int))))))
        else none
      else ret0 n5 (decide ((PV.num (PV.fld p1 1)) < (PV.num (PV.fld p6 1)))) p6
    else none
  else ret0 n5 (decide ((PV.num (PV.fld p1 1)) < (PV.num (PV.fld p6 1)))) p6

theorem f23_w1b0_mem (k : Nat) (c20 : (List Int) → Int → (Int → R) → R) (retF : Int × Bool × PV → R) (NX_w1 : St → R) (p1 : PV) (n5 : Int) (p6 : PV) : exec (f23_E k c20) f23_cw1 (purgeK (f23_E k c20) f23_cw1 (loopK NX_w1 (kont (f23_E k c20) f23_code [1, 1, 0, 0] (endK (f23_E k c20) Try.f23 [2000000] f23_un retF)))) (f23_hw1_0 p1 n5 p6) = f23_w1b0 c20 (fun y0 y1 y2 => retF (y0, y1, y2)) (fun n5 p6 => NX_w1 (f23_hw1_0 p1 n5 p6)) p1 n5 p6 := by kernel_rfl

noncomputable def f23_w1b0N (k : Nat) (c20 : (List Int) → Int → (Int → R) → R) (ret0 : Int → Bool → PV → R) (next_w1_0 : Int → PV → R) (p1 : PV) (n5 : Int) (p6 : PV) : R :=
  f23_w1b0 c20 ret0 next_w1_0 p1 n5 p6
theorem f23_w1b0_eq (k : Nat) (c20 : (List Int) → Int → (Int → R) → R) (retF : Int × Bool × PV → R) (NX_w1 : St → R) (p1 : PV) (n5 : Int) (p6 : PV) : exec (f23_E k c20) f23_cw1 (purgeK (f23_E k c20) f23_cw1 (loopK NX_w1 (kont (f23_E k c20) f23_code [1, 1, 0, 0] (endK (f23_E k c20) Try.f23 [2000000] f23_un retF)))) (f23_hw1_0 p1 n5 p6) = f23_w1b0N k c20 (fun y0 y1 y2 => retF (y0, y1, y2)) (fun n5 p6 => NX_w1 (f23_hw1_0 p1 n5 p6)) p1 n5 p6 :=
  (f23_w1b0_mem k c20 retF NX_w1 p1 n5 p6)

noncomputable def f23_w1B (k : Nat) (c20 : (List Int) → Int → (Int → R) → R) (ret0 : Int → Bool → PV → R) (p1 : PV) (nx : Int × PV → R) : Int × PV → R := (fun s => f23_w1b0N k c20 ret0 (fun n5 p6 => nx (n5, p6)) p1 s.1 s.2)
noncomputable def f23_w1N (k : Nat) (c20 : (List Int) → Int → (Int → R) → R) (ret0 : Int → Bool → PV → R) (p1 : PV) (n5 : Int) (p6 : PV) : R := loopR (f23_w1B k c20 ret0 p1) k (n5, p6)
theorem f23_w1_eq (k : Nat) (c20 : (List Int) → Int → (Int → R) → R) (retF : Int × Bool × PV → R) (p1 : PV) (n5 : Int) (p6 : PV) : f23_w1A k c20 retF p1 n5 p6 = f23_w1N k c20 (fun y0 y1 y2 => retF (y0, y1, y2)) p1 n5 p6 :=
  Eq.mp (by kernel_rfl) (loop_sim (E := (f23_E k c20)) (c := f23_cw1) (K := (kont (f23_E k c20) f23_code [1, 1, 0, 0] (endK (f23_E k c20) Try.f23 [2000000] f23_un retF))) (S := Int × PV) (fun s => f23_hw1_0 p1 s.1 s.2) (f23_w1B k c20 (fun y0 y1 y2 => retF (y0, y1, y2)) p1) (fun NX s => by
    exact Eq.mp (by kernel_rfl) (f23_w1b0_eq k c20 retF NX p1 s.1 s.2)) k (n5, p6))

noncomputable def f23_e (c20 : (List Int) → Int → (Int → R) → R) (ret0 : Int → Bool → PV → R) (w1 : Int → PV → R) (p1 : PV) : R :=
  w1 0 p1

theorem f23_e_mem (k : Nat) (c20 : (List Int) → Int → (Int → R) → R) (retF : Int × Bool × PV → R) (p1 : PV) : exec (f23_E k c20) f23_code (endK (f23_E k c20) Try.f23 [2000000] f23_un retF) ⟨[.ptr 2000000 [], .undef, .undef, .undef, .undef, .undef, .undef, .undef, .undef, .undef, .undef, .undef, .undef, .undef, .undef, .undef, .undef, .undef, .undef, .undef, .undef, .undef, .undef, .undef, .undef, .undef, .undef, .undef, .undef, .undef, .undef, .undef, .undef, .undef, .undef, .undef, .undef, .undef, .undef, .undef, .undef, .undef, .undef, .undef, .undef, .undef, .undef, .undef, .undef, .undef, .undef, .undef, .undef, .undef, .undef, .undef, .undef, .undef, .undef, .undef, .undef, .undef], [(2000000, .box 48 (.val 48 p1))]⟩ = f23_e c20 (fun y0 y1 y2 => retF (y0, y1, y2)) (fun n5 p6 => f23_w1A k c20 retF p1 n5 p6) p1 := by kernel_rfl

noncomputable def f23_N (k : Nat) (c20 : (List Int) → Int → (Int → R) → R) (ret0 : Int → Bool → PV → R) (p1 : PV) : R :=
  f23_e c20 ret0 (fun n5 p6 => f23_w1N k c20 ret0 p1 n5 p6) p1
theorem f23_eq (k : Nat) (c20 : (List Int) → Int → (Int → R) → R) (retF : Int × Bool × PV → R) (p1 : PV) : exec (f23_E k c20) f23_code (endK (f23_E k c20) Try.f23 [2000000] f23_un retF) ⟨[.ptr 2000000 [], .undef, .undef, .undef, .undef, .undef, .undef, .undef, .undef, .undef, .undef, .undef, .undef, .undef, .undef, .undef, .undef, .undef, .undef, .undef, .undef, .undef, .undef, .undef, .undef, .undef, .undef, .undef, .undef, .undef, .undef, .undef, .undef, .undef, .undef, .undef, .undef, .undef, .undef, .undef, .undef, .undef, .undef, .undef, .undef, .undef, .undef, .undef, .undef, .undef, .undef, .undef, .undef, .undef, .undef, .undef, .undef, .undef, .undef, .undef, .undef, .undef], [(2000000, .box 48 (.val 48 p1))]⟩ = f23_N k c20 (fun y0 y1 y2 => retF (y0, y1, y2)) p1 :=
  (f23_e_mem k c20 retF p1).trans (by rw [show (fun n5 p6 => f23_w1A k c20 retF p1 n5 p6) = (fun n5 p6 => f23_w1N k c20 (fun y0 y1 y2 => retF (y0, y1, y2)) p1 n5 p6) from funext fun n5 => funext fun p6 => f23_w1_eq k c20 retF p1 n5 p6]; rfl)

noncomputable def G23 : Nat → PV → (Int → Bool → PV → R) → R
  | 0, _, _ => none
  | k + 1, p1, ret0 => f23_N k (G20 k) ret0 p1
theorem S23 : ∀ k, Snd Try.prog 23 f23_I f23_O (fun x ret => G23 k x (fun y0 y1 y2 => ret (y0, y1, y2)))
  | 0 => snd_none
  | k + 1 => snd_step (E := f23_E k (G20 k)) rfl laidOut noNums (orc_ok (S20 k).o f20_D_ok orc0_ok) (f := 23) (fn := Try.f23) (code := f23_code) Try.func23 (by kernel_rfl) (drawsOk_of laidOut (orc_ok (S20 k).o f20_D_ok orc0_ok) mixed (by kernel_rfl)) f23_un f23_un_ok [2000000] (fun _ => rfl)
      (fun x ret => f23_eq k (G20 k) ret x)

/- (*catchpole/token.cutter).often -/
noncomputable def f17_I : PV → List SV × Obs := fun x => ([.ptr 2000000 []], [(2000000, .box 48 (.val 48 x))])
noncomputable def f17_D : List SV → Obs → Option (PV)
  | [.ptr 2000000 []], [(2000000, .box 48 (.val 48 p1))] => some p1
  | _, _ => none
theorem f17_D_ok (args : List SV) (B : Obs) (x : PV) (h : f17_D args B = some x) : f17_I x = (args, B) := by
  unfold f17_D at h
  split at h
  · injection h with h; subst h; rfl
  · cases h
noncomputable def f17_O : Int × Int × Int × PV → Out := (fun y => ([.int .i64 y.1, .int .i64 y.2.1, .int .i64 y.2.2.1], [(2000000, .box 48 (.val 48 y.2.2.2))]))
noncomputable def f17_un : Out → Option (Int × Int × Int × PV)
  | ([.int .i64 y0, .int .i64 y1, .int .i64 y2], [(2000000, .box 48 (.val 48 y3))]) => some (y0, y1, y2, y3)
  | _ => none
theorem f17_un_ok (o : Out) (y : Int × Int × Int × PV) (h : f17_un o = some y) : o = f17_O y := by
  unfold f17_un at h
  split at h
  · injection h with h; subst h; rfl
  · cases h
noncomputable def f17_msk : Nat → Option (List Nat) := fun key =>  none
noncomputable def f17_C (c16 : (List Int) → PV → (Bool → PV → R) → R) (c23 : PV → (Int → Bool → PV → R) → R) : Oracle := orc 16 f16_D f16_O (fun x ret => c16 x.1 x.2 (fun y0 y1 => ret (y0, y1))) <| orc 23 f23_D f23_O (fun x ret => c23 x (fun y0 y1 y2 => ret (y0, y1, y2))) <| orc0
noncomputable def f17_E (k : Nat) (c16 : (List Int) → PV → (Bool → PV → R) → R) (c23 : PV → (Int → Bool → PV → R) → R) : Env := { P := Try.prog, nilOwn := fun d => false, fldOwn := fun d i => false, ownPar := ownPars, ownRet := false, mask := f17_msk, fuel := k, C := f17_C c16 c23 }
noncomputable def f17_code : Code := Try.f17.body.getD .skip
noncomputable def f17_e (c16 : (List Int) → PV → (Bool → PV → R) → R) (c23 : PV → (Int → Bool → PV → R) → R) (ret0 : Int → Int → Int → PV → R) (p1 : PV) : R :=
  c23 p1 fun n2 b3 p4 =>
  bif (decide ((255 : Int) < n2)) then
    ret0 0 0 4 p4
  else bif (b3 == true) then
    c16 [44] p4 fun b5 p6 =>
    bif b5 then
      c23 p6 fun n7 b8 p9 =>
      bif (decide ((255 : Int) < n7)) then
        ret0 0 0 4 p9
      else bif (!b8) then
        bif ((!b3) == false) then
          c16 [125] p9 fun b10 p11 =>
          bif ((!b10) == false) then
            ret0 n2 (-1) 0 p11
          else ret0 0 0 2 p11
        else ret0 0 0 2 p9
      else bif ((!b3) == false) then
        c16 [125] p9 fun b12 p13 =>
        bif ((!b12) == false) then
          bif ((!(decide (n7 = (-1 : Int)))) == true) then
            bif (decide (n7 < n2)) then
              ret0 0 0 2 p13
            else ret0 n2 n7 0 p13
          else ret0 n2 n7 0 p13
        else ret0 0 0 2 p13
      else ret0 0 0 2 p9
    else bif ((!b3) == false) then
      c16 [125] p6 fun b14 p15 =>
      bif ((!b14) == false) then
        bif ((!(decide (n2 = (-1 : Int)))) == true) then
          bif (decide (n2 < n2)) then
            ret0 0 0 2 p15
          else ret0 n2 n2 0 p15
        else ret0 n2 n2 0 p15
      else ret0 0 0 2 p15
    else ret0 0 0 2 p6
  else bif ((!b3) == false) then
    c16 [125] p4 fun b16 p17 =>
    bif ((!b16) == false) then
      bif ((!(decide (n2 = (-1 : Int)))) == true) then
        bif (decide (n2 < n2)) then
          ret0 0 0 2 p17
        else ret0 n2 n2 0 p17
      else ret0 n2 n2 0 p17
    else ret0 0 0 2 p17
  else ret0 0 0 2 p4

theorem f17_e_mem (k : Nat) (c16 : (List Int) → PV → (Bool → PV → R) → R) (c23 : PV → (Int → Bool → PV → R) → R) (retF : Int × Int × Int × PV → R) (p1 : PV) : exec (f17_E k c16 c23) f17_code (endK (f17_E k c16 c23) Try.f17 [2000000] f17_un retF) ⟨[.ptr 2000000 [], .undef, .undef, .undef, .undef, .undef, .undef, .undef, .undef, .undef, .undef, .undef, .undef, .undef, .undef, .undef, .undef, .undef, .undef, .undef, .undef, .undef, .undef, .undef, .undef, .undef, .undef, .undef, .undef, .undef, .undef, .undef, .undef, .undef, .undef, .undef, .undef, .undef, .undef, .undef, .undef, .undef, .undef, .undef, .undef, .undef, .undef, .undef, .undef], [(2000000, .box 48 (.val 48 p1))]⟩ = f17_e c16 c23 (fun y0 y1 y2 y3 => retF (y0, y1, y2, y3)) p1 := by kernel_rfl

noncomputable def f17_N (k : Nat) (c16 : (List Int) → PV → (Bool → PV → R) → R) (c23 : PV → (Int → Bool → PV → R) → R) (ret0 : Int → Int → Int → PV → R) (p1 : PV) : R :=
  f17_e c16 c23 ret0 p1
theorem f17_eq (k : Nat) (c16 : (List Int) → PV → (Bool → PV → R) → R) (c23 : PV → (Int → Bool → PV → R) → R) (retF : Int × Int × Int × PV → R) (p1 : PV) : exec (f17_E k c16 c23) f17_code (endK (f17_E k c16 c23) Try.f17 [2000000] f17_un retF) ⟨[.ptr 2000000 [], .undef, .undef, .undef, .undef, .undef, .undef, .undef, .undef, .undef, .undef, .undef, .undef, .undef, .undef, .undef, .undef, .undef, .undef, .undef, .undef, .undef, .undef, .undef, .undef, .undef, .undef, .undef, .undef, .undef, .undef, .undef, .undef, .undef, .undef, .undef, .undef, .undef, .undef, .undef, .undef, .undef, .undef, .undef, .undef, .undef, .undef, .undef, .undef], [(2000000, .box 48 (.val 48 p1))]⟩ = f17_N k c16 c23 (fun y0 y1 y2 y3 => retF (y0, y1, y2, y3)) p1 :=
  (f17_e_mem k c16 c23 retF p1)

noncomputable def G17 : Nat → PV → (Int → Int → Int → PV → R) → R
  | 0, _, _ => none
  | k + 1, p1, ret0 => f17_N k (G16 k) (G23 k) ret0 p1
theorem S17 : ∀ k, Snd Try.prog 17 f17_I f17_O (fun x ret => G17 k x (fun y0 y1 y2 y3 => ret (y0, y1, y2, y3)))
  | 0 => snd_none
  | k + 1 => snd_step (E := f17_E k (G16 k) (G23 k)) rfl laidOut noNums (orc_ok (S16 k).o f16_D_ok (orc_ok (S23 k).o f23_D_ok orc0_ok)) (f := 17) (fn := Try.f17) (code := f17_code) Try.func17 (by kernel_rfl) (drawsOk_of laidOut (orc_ok (S16 k).o f16_D_ok (orc_ok (S23 k).o f23_D_ok orc0_ok)) mixed (by kernel_rfl)) f17_un f17_un_ok [2000000] (fun _ => rfl)
      (fun x ret => f17_eq k (G16 k) (G23 k) ret x)

/- catchpole/byteset.Of -/
noncomputable def f9_I : PV → List SV × Obs := fun x => ([.val 40 x], [])
noncomputable def f9_D : List SV → Obs → Option (PV)
  | [.val 40 p1], [] => some p1
  | _, _ => none
theorem f9_D_ok (args : List SV) (B : Obs) (x : PV) (h : f9_D args B = some x) : f9_I x = (args, B) := by
  unfold f9_D at h
  split at h
  · injection h with h; subst h; rfl
  · cases h
noncomputable def f9_O : PV → Out := (fun y => ([.val 32 y], []))
noncomputable def f9_un : Out → Option (PV)
  | ([.val 32 y0], []) => some y0
  | _ => none
theorem f9_un_ok (o : Out) (y : PV) (h : f9_un o = some y) : o = f9_O y := by
  unfold f9_un at h
  split at h
  · injection h with h; subst h; rfl
  · cases h
noncomputable def f9_msk : Nat → Option (List Nat) := fun key => bif key == 9 then some [2, 3, 6, 7, 8] else none
noncomputable def f9_C : Oracle := orc0
noncomputable def f9_E (k : Nat) : Env := { P := Try.prog, nilOwn := fun d => false, fldOwn := fun d i => false, ownPar := ownPars, ownRet := false, mask := f9_msk, fuel := k, C := f9_C }
noncomputable def f9_code : Code := Try.f9.body.getD .skip
noncomputable def f9_cw1 : Code := subC f9_code [1, 1, 0, 1, 0, 0]
noncomputable def f9_hw1_0 (p1 : PV) (n5 : Int) (p6 : PV) : St := ⟨[.dead, .dead, .ptr 2 [], .ptr 3 [], .dead, .dead, .val 40 p1, .int .i64 (List.length (PV.els p1) : Int), .int .i64 n5, .dead, .dead, .dead, .dead, .dead, .dead, .dead, .dead, .dead, .dead, .dead, .dead, .dead, .dead], [(2, .box 32 (.val 32 (PV.agg [(PV.int 0), (PV.int 0), (PV.int 0), (PV.int 0)]))), (3, .box 32 (.val 32 p6))]⟩
noncomputable def f9_w1A (k : Nat) (retF : PV → R) (p1 : PV) (n5 : Int) (p6 : PV) : R := loopM (f9_E k) f9_cw1 (kont (f9_E k) f9_code [1, 1, 0, 1, 0] (endK (f9_E k) Try.f9 [] f9_un retF)) k (f9_hw1_0 p1 n5 p6)
noncomputable def f9_w1b0 (ret0 : PV → R) (next_w1_0 : Int → PV → R) (p1 : PV) (n5 : Int) (p6 : PV) : R :=
  bif (decide (n5 < (List.length (PV.els p1) : Int))) then
    bif (true && decide ((0 : Int) ≤ n5) && decide (n5 < (List.length (PV.els p1) : Int))) then
      bif (true && decide ((0 : Int) ≤ (IntKind.wrap .u8 (Int.tdiv (PV.num (List.getD (PV.els p1) (n5).toNat PV.nil)) 64))) && decide ((IntKind.wrap .u8 (Int.tdiv (PV.num (List.getD (PV.els p1) (n5).toNat PV.nil)) 64)) < 4)) then
        let n7 : Int := (PV.num (PV.fld p6 ((IntKind.wrap .u8 (Int.tdiv (PV.num (List.getD (PV.els p1) (n5).toNat PV.nil)) 64))).toNat))
        bif (decide ((0 : Int) ≤ (Int.tmod (PV.num (List.getD (PV.els p1) (n5).toNat PV.nil)) 64))) then
          let n8 : Int := (IntKind.wrap .u64 ((1 : Int) * 2 ^ (min ((Int.tmod (PV.num (List.getD (PV.els p1) (n5).toNat PV.nil)) 64)).toNat 64)))
          bif (true && decide ((0 : Int) ≤ (IntKind.wrap .u8 (Int.tdiv (PV.num (List.getD (PV.els p1) (n5).toNat PV.nil)) 64))) && decide ((IntKind.wrap .u8 (Int.tdiv (PV.num (List.getD (PV.els p1) (n5).toNat PV.nil)) 64)) < 4)) then
            let p9 : PV := (PV.agg (List.set (PV.flds p6) ((IntKind.wrap .u8 (Int.tdiv (PV.num (List.getD (PV.els p1) (n5).toNat PV.nil)) 64))).toNat (PV.int (intBit .or .u64 n7 n8))))
            next_w1_0 (IntKind.wrap .i64 (n5 + (1 : Int))) p9
          else none
        else none
      else none
    else none
  else ret0 p6

theorem f9_w1b0_mem (k : Nat) (retF : PV → R) (NX_w1 : St → R) (p1 : PV) (n5 : Int) (p6 : PV) : exec (f9_E k) f9_cw1 (purgeK (f9_E k) f9_cw1 (loopK NX_w1 (kont (f9_E k) f9_code [1, 1, 0, 1, 0] (endK (f9_E k) Try.f9 [] f9_un retF)))) (f9_hw1_0 p1 n5 p6) = f9_w1b0 (fun y0 => retF y0) (fun n5 p6 => NX_w1 (f9_hw1_0 p1 n5 p6)) p1 n5 p6 := by kernel_rfl

noncomputable def f9_w1b0N (k : Nat) (ret0 : PV → R) (next_w1_0 : Int → PV → R) (p1 : PV) (n5 : Int) (p6 : PV) : R :=
  f9_w1b0 ret0 next_w1_0 p1 n5 p6
theorem f9_w1b0_eq (k : Nat) (retF : PV → R) (NX_w1 : St → R) (p1 : PV) (n5 : Int) (p6 : PV) : exec (f9_E k) f9_cw1 (purgeK (f9_E k) f9_cw1 (loopK NX_w1 (kont (f9_E k) f9_code [1, 1, 0, 1, 0] (endK (f9_E k) Try.f9 [] f9_un retF)))) (f9_hw1_0 p1 n5 p6) = f9_w1b0N k (fun y0 => retF y0) (fun n5 p6 => NX_w1 (f9_hw1_0 p1 n5 p6)) p1 n5 p6 :=
  (f9_w1b0_mem k retF NX_w1 p1 n5 p6)

noncomputable def f9_w1B (k : Nat) (ret0 : PV → R) (p1 : PV) (nx : Int × PV → R) : Int × PV → R := (fun s => f9_w1b0N k ret0 (fun n5 p6 => nx (n5, p6)) p1 s.1 s.2)
noncomputable def f9_w1N (k : Nat) (ret0 : PV → R) (p1 : PV) (n5 : Int) (p6 : PV) : R := loopR (f9_w1B k ret0 p1) k (n5, p6)
theorem f9_w1_eq (k : Nat) (retF : PV → R) (p1 : PV) (n5 : Int) (p6 : PV) : f9_w1A k retF p1 n5 p6 = f9_w1N k (fun y0 => retF y0) p1 n5 p6 :=
  Eq.mp (by kernel_rfl) (loop_sim (E := (f9_E k)) (c := f9_cw1) (K := (kont (f9_E k) f9_code [1, 1, 0, 1, 0] (endK (f9_E k) Try.f9 [] f9_un retF))) (S := Int × PV) (fun s => f9_hw1_0 p1 s.1 s.2) (f9_w1B k (fun y0 => retF y0) p1) (fun NX s => by
    exact Eq.mp (by kernel_rfl) (f9_w1b0_eq k retF NX p1 s.1 s.2)) k (n5, p6))

noncomputable def f9_e (ret0 : PV → R) (w1 : Int → PV → R) (p1 : PV) : R :=
  w1 0 (PV.agg [(PV.int 0), (PV.int 0), (PV.int 0), (PV.int 0)])

theorem f9_e_mem (k : Nat) (retF : PV → R) (p1 : PV) : exec (f9_E k) f9_code (endK (f9_E k) Try.f9 [] f9_un retF) ⟨[.val 40 p1, .undef, .undef, .undef, .undef, .undef, .undef, .undef, .undef, .undef, .undef, .undef, .undef, .undef, .undef, .undef, .undef, .undef, .undef, .undef, .undef, .undef, .undef], []⟩ = f9_e (fun y0 => retF y0) (fun n5 p6 => f9_w1A k retF p1 n5 p6) p1 := by kernel_rfl

noncomputable def f9_N (k : Nat) (ret0 : PV → R) (p1 : PV) : R :=
  f9_e ret0 (fun n5 p6 => f9_w1N k ret0 p1 n5 p6) p1
theorem f9_eq (k : Nat) (retF : PV → R) (p1 : PV) : exec (f9_E k) f9_code (endK (f9_E k) Try.f9 [] f9_un retF) ⟨[.val 40 p1, .undef, .undef, .undef, .undef, .undef, .undef, .undef, .undef, .undef, .undef, .undef, .undef, .undef, .undef, .undef, .undef, .undef, .undef, .undef, .undef, .undef, .undef], []⟩ = f9_N k (fun y0 => retF y0) p1 :=
  (f9_e_mem k retF p1).trans (by rw [show (fun n5 p6 => f9_w1A k retF p1 n5 p6) = (fun n5 p6 => f9_w1N k (fun y0 => retF y0) p1 n5 p6) from funext fun n5 => funext fun p6 => f9_w1_eq k retF p1 n5 p6]; rfl)

noncomputable def G9 : Nat → PV → (PV → R) → R
  | 0, _, _ => none
  | k + 1, p1, ret0 => f9_N k  ret0 p1
theorem S9 : ∀ k, Snd Try.prog 9 f9_I f9_O (fun x ret => G9 k x (fun y0 => ret y0))
  | 0 => snd_none
  | k + 1 => snd_step (E := f9_E k ) rfl laidOut noNums orc0_ok (f := 9) (fn := Try.f9) (code := f9_code) Try.func9 (by kernel_rfl) (drawsOk_of laidOut orc0_ok mixed (by kernel_rfl)) f9_un f9_un_ok [] (fun _ => rfl)
      (fun x ret => f9_eq k  ret x)

/- (*catchpole/token.cutter).escaped -/
noncomputable def f18_I : PV → List SV × Obs := fun x => ([.ptr 2000000 []], [(2000000, .box 48 (.val 48 x))])
noncomputable def f18_D : List SV → Obs → Option (PV)
  | [.ptr 2000000 []], [(2000000, .box 48 (.val 48 p1))] => some p1
  | _, _ => none
theorem f18_D_ok (args : List SV) (B : Obs) (x : PV) (h : f18_D args B = some x) : f18_I x = (args, B) := by
  unfold f18_D at h
  split at h
  · injection h with h; subst h; rfl
  · cases h
noncomputable def f18_O : PV × Int × PV → Out := (fun y => ([.val 32 y.1, .int .i64 y.2.1], [(2000000, .box 48 (.val 48 y.2.2))]))
noncomputable def f18_un : Out → Option (PV × Int × PV)
  | ([.val 32 y0, .int .i64 y1], [(2000000, .box 48 (.val 48 y2))]) => some (y0, y1, y2)
  | _ => none
theorem f18_un_ok (o : Out) (y : PV × Int × PV) (h : f18_un o = some y) : o = f18_O y := by
  unfold f18_un at h
  split at h
  · injection h with h; subst h; rfl
  · cases h
noncomputable def f18_msk : Nat → Option (List Nat) := fun key =>  none
noncomputable def f18_C (c9 : PV → (PV → R) → R) (c20 : (List Int) → Int → (Int → R) → R) : Oracle := orc 9 f9_D f9_O (fun x ret => c9 x (fun y0 => ret y0)) <| orc 20 f20_D f20_O (fun x ret => c20 x.1 x.2 (fun y0 => ret y0)) <| orc0
noncomputable def f18_E (k : Nat) (c9 : PV → (PV → R) → R) (c20 : (List Int) → Int → (Int → R) → R) : Env := { P := Try.prog, nilOwn := fun d => false, fldOwn := fun d i => false, ownPar := ownPars, ownRet := false, mask := f18_msk, fuel := k, C := f18_C c9 c20 }
noncomputable def f18_code : Code := Try.f18.body.getD .skip
noncomputable def f18_e (c9 : PV → (PV → R) → R) (c20 : (List Int) → Int → (Int → R) → R) (ret0 : PV → Int → PV → R) (p1 : PV) : R :=
  bif (decide ((PV.num (PV.fld p1 1)) = (List.length (PV.chars (PV.fld p1 0)) : Int))) then
    ret0 (PV.agg [(PV.int 0), (PV.int 0), (PV.int 0), (PV.int 0)]) 2 p1
  else bif (decide ((0 : Int) ≤ (PV.num (PV.fld p1 1))) && decide ((PV.num (PV.fld p1 1)) < (List.length (PV.chars (PV.fld p1 0)) : Int))) then
    bif ((decide ((49 : Int) ≤ (List.getD (PV.chars (PV.fld p1 0)) ((PV.num (PV.fld p1 1))).toNat 0))) == true) then
      bif (decide ((List.getD (PV.chars (PV.fld p1 0)) ((PV.num (PV.fld p1 1))).toNat 0) ≤ (57 : Int))) then
        ret0 (PV.agg [(PV.int 0), (PV.int 0), (PV.int 0), (PV.int 0)]) 3 (PV.agg (List.set (PV.flds p1) 1 (PV.int (IntKind.wrap .i64 ((PV.num (PV.fld p1 1)) + (1 : Int))))))
      else c20 [46, 91, 93, 92, 40, 41, 42, 43, 63, 123, 125, 124, 94, 36, 45] (List.getD (PV.chars (PV.fld p1 0)) ((PV.num (PV.fld p1 1))).toNat 0) fun n2 =>
      bif (decide (n2 < (0 : Int))) then
        ret0 (PV.agg [(PV.int 0), (PV.int 0), (PV.int 0), (PV.int 0)]) 2 (PV.agg (List.set (PV.flds p1) 1 (PV.int (IntKind.wrap .i64 ((PV.num (PV.fld p1 1)) + (1 : Int))))))
      else c9 (PV.list [(PV.int (List.getD (PV.chars (PV.fld p1 0)) ((PV.num (PV.fld p1 1))).toNat 0))]) fun p3 =>
      ret0 p3 0 (PV.agg (List.set (PV.flds p1) 1 (PV.int (IntKind.wrap .i64 ((PV.num (PV.fld p1 1)) + (1 : Int))))))
    else c20 [46, 91, 93, 92, 40, 41, 42, 43, 63, 123, 125, 124, 94, 36, 45] (List.getD (PV.chars (PV.fld p1 0)) ((PV.num (PV.fld p1 1))).toNat 0) fun n4 =>
    bif (decide (n4 < (0 : Int))) then
      ret0 (PV.agg [(PV.int 0), (PV.int 0), (PV.int 0), (PV.int 0)]) 2 (PV.agg (List.set (PV.flds p1) 1 (PV.int (IntKind.wrap .i64 ((PV.num (PV.fld p1 1)) + (1 : Int))))))
    else c9 (PV.list [(PV.int (List.getD (PV.chars (PV.fld p1 0)) ((PV.num (PV.fld p1 1))).toNat 0))]) fun p5 =>
    ret0 p5 0 (PV.agg (List.set (PV.flds p1) 1 (PV.int (IntKind.wrap .i64 ((PV.num (PV.fld p1 1)) + (1 : Int))))))
  else none

theorem f18_e_mem (k : Nat) (c9 : PV → (PV → R) → R) (c20 : (List Int) → Int → (Int → R) → R) (retF : PV × Int × PV → R) (p1 : PV) : exec (f18_E k c9 c20) f18_code (endK (f18_E k c9 c20) Try.f18 [2000000] f18_un retF) ⟨[.ptr 2000000 [], .undef, .undef, .undef, .undef, .undef, .undef, .undef, .undef, .undef, .undef, .undef, .undef, .undef, .undef, .undef, .undef, .undef, .undef, .undef, .undef, .undef, .undef, .undef, .undef, .undef, .undef, .undef, .undef, .undef, .undef, .undef, .undef, .undef, .undef, .undef, .undef, .undef, .undef, .undef, .undef, .undef, .undef, .undef, .undef, .undef, .undef, .undef], [(2000000, .box 48 (.val 48 p1))]⟩ = f18_e c9 c20 (fun y0 y1 y2 => retF (y0, y1, y2)) p1 := by kernel_rfl

noncomputable def f18_N (k : Nat) (c9 : PV → (PV → R) → R) (c20 : (List Int) → Int → (Int → R) → R) (ret0 : PV → Int → PV → R) (p1 : PV) : R :=
  f18_e c9 c20 ret0 p1
theorem f18_eq (k : Nat) (c9 : PV → (PV → R) → R) (c20 : (List Int) → Int → (Int → R) → R) (retF : PV × Int × PV → R) (p1 : PV) : exec (f18_E k c9 c20) f18_code (endK (f18_E k c9 c20) Try.f18 [2000000] f18_un retF) ⟨[.ptr 2000000 [], .undef, .undef, .undef, .undef, .undef, .undef, .undef, .undef, .undef, .undef, .undef, .undef, .undef, .undef, .undef, .undef, .undef, .undef, .undef, .undef, .undef, .undef, .undef, .undef, .undef, .undef, .undef, .undef, .undef, .undef, .undef, .undef, .undef, .undef, .undef, .undef, .undef, .undef, .undef, .undef, .undef, .undef, .undef, .undef, .undef, .undef, .undef], [(2000000, .box 48 (.val 48 p1))]⟩ = f18_N k c9 c20 (fun y0 y1 y2 => retF (y0, y1, y2)) p1 :=
  (f18_e_mem k c9 c20 retF p1)

noncomputable def G18 : Nat → PV → (PV → Int → PV → R) → R
  | 0, _, _ => none
  | k + 1, p1, ret0 => f18_N k (G9 k) (G20 k) ret0 p1
theorem S18 : ∀ k, Snd Try.prog 18 f18_I f18_O (fun x ret => G18 k x (fun y0 y1 y2 => ret (y0, y1, y2)))
  | 0 => snd_none
  | k + 1 => snd_step (E := f18_E k (G9 k) (G20 k)) rfl laidOut noNums (orc_ok (S9 k).o f9_D_ok (orc_ok (S20 k).o f20_D_ok orc0_ok)) (f := 18) (fn := Try.f18) (code := f18_code) Try.func18 (by kernel_rfl) (drawsOk_of laidOut (orc_ok (S9 k).o f9_D_ok (orc_ok (S20 k).o f20_D_ok orc0_ok)) mixed (by kernel_rfl)) f18_un f18_un_ok [2000000] (fun _ => rfl)
      (fun x ret => f18_eq k (G9 k) (G20 k) ret x)

/- strings.Cut -/
noncomputable def f28_I : (List Int) × (List Int) → List SV × Obs := fun x => ([.str x.1, .str x.2], [])
noncomputable def f28_D : List SV → Obs → Option ((List Int) × (List Int))
  | [.str s1, .str s2], [] => some (s1, s2)
  | _, _ => none
theorem f28_D_ok (args : List SV) (B : Obs) (x : (List Int) × (List Int)) (h : f28_D args B = some x) : f28_I x = (args, B) := by
  unfold f28_D at h
  split at h
  · injection h with h; subst h; rfl
  · cases h
noncomputable def f28_O : (List Int) × (List Int) × Bool → Out := (fun y => ([.str y.1, .str y.2.1, .bool y.2.2], []))
noncomputable def f28_un : Out → Option ((List Int) × (List Int) × Bool)
  | ([.str y0, .str y1, .bool y2], []) => some (y0, y1, y2)
  | _ => none
theorem f28_un_ok (o : Out) (y : (List Int) × (List Int) × Bool) (h : f28_un o = some y) : o = f28_O y := by
  unfold f28_un at h
  split at h
  · injection h with h; subst h; rfl
  · cases h

noncomputable def G28 : Nat → (List Int) → (List Int) → ((List Int) → (List Int) → Bool → R) → R
  | _, p, q, ret0 => bif decide (p.length ≤ 1048576) then (match cutL p q with | (a, b, c) => ret0 a b c) else none
theorem S28 : ∀ k, SndO Try.prog 28 f28_I f28_O (fun x ret => G28 k x.1 x.2 (fun y0 y1 y2 => ret (y0, y1, y2))) := fun k => Tkx.cut_o

/- catchpole/byteset.Range -/
noncomputable def f11_I : Int × Int → List SV × Obs := fun x => ([.int .u8 x.1, .int .u8 x.2], [])
noncomputable def f11_D : List SV → Obs → Option (Int × Int)
  | [.int .u8 n1, .int .u8 n2], [] => some (n1, n2)
  | _, _ => none
theorem f11_D_ok (args : List SV) (B : Obs) (x : Int × Int) (h : f11_D args B = some x) : f11_I x = (args, B) := by
  unfold f11_D at h
  split at h
  · injection h with h; subst h; rfl
  · cases h
noncomputable def f11_O : PV → Out := (fun y => ([.val 32 y], []))
noncomputable def f11_un : Out → Option (PV)
  | ([.val 32 y0], []) => some y0
  | _ => none
theorem f11_un_ok (o : Out) (y : PV) (h : f11_un o = some y) : o = f11_O y := by
  unfold f11_un at h
  split at h
  · injection h with h; subst h; rfl
  · cases h
noncomputable def f11_msk : Nat → Option (List Nat) := fun key => bif key == 9 then some [1, 4, 5, 6] else none
noncomputable def f11_C : Oracle := orc0
noncomputable def f11_E (k : Nat) : Env := { P := Try.prog, nilOwn := fun d => false, fldOwn := fun d i => false, ownPar := ownPars, ownRet := false, mask := f11_msk, fuel := k, C := f11_C }
noncomputable def f11_code : Code := Try.f11.body.getD .skip
noncomputable def f11_cw1 : Code := subC f11_code [1, 1, 0, 1, 0, 0]
noncomputable def f11_hw1_0 (n2 : Int) (n6 : Int) (p7 : PV) : St := ⟨[.dead, .int .u8 n2, .dead, .dead, .ptr 4 [], .ptr 5 [], .int .i64 n6, .dead, .dead, .dead, .dead, .dead, .dead, .dead, .dead, .dead, .dead, .dead, .dead, .dead, .dead, .dead, .dead, .dead, .dead], [(4, .box 32 (.val 32 (PV.agg [(PV.int 0), (PV.int 0), (PV.int 0), (PV.int 0)]))), (5, .box 32 (.val 32 p7))]⟩
noncomputable def f11_w1A (k : Nat) (retF : PV → R) (n2 : Int) (n6 : Int) (p7 : PV) : R := loopM (f11_E k) f11_cw1 (kont (f11_E k) f11_code [1, 1, 0, 1, 0] (endK (f11_E k) Try.f11 [] f11_un retF)) k (f11_hw1_0 n2 n6 p7)
noncomputable def f11_w1b0 (ret0 : PV → R) (next_w1_0 : Int → PV → R) (n2 : Int) (n6 : Int) (p7 : PV) : R :=
  bif (decide (n6 ≤ (IntKind.wrap .i64 n2))) then
    bif (true && decide ((0 : Int) ≤ (IntKind.wrap .i64 (Int.tdiv n6 64))) && decide ((IntKind.wrap .i64 (Int.tdiv n6 64)) < 4)) then
      bif (decide ((0 : Int) ≤ (Int.tmod n6 64))) then
        let n8 : Int := (intBit .or .u64 (PV.num (PV.fld p7 ((IntKind.wrap .i64 (Int.tdiv n6 64))).toNat)) (IntKind.wrap .u64 ((1 : Int) * 2 ^ (min ((Int.tmod n6 64)).toNat 64))))
        bif (true && decide ((0 : Int) ≤ (IntKind.wrap .i64 (Int.tdiv n6 64))) && decide ((IntKind.wrap .i64 (Int.tdiv n6 64)) < 4)) then
          next_w1_0 (IntKind.wrap .i64 (n6 + (1 : Int))) (PV.agg (List.set (PV.flds p7) ((IntKind.wrap .i64 (Int.tdiv n6 64))).toNat (PV.int n8)))
        else none
      else none
    else none
  else ret0 p7

theorem f11_w1b0_mem (k : Nat) (retF : PV → R) (NX_w1 : St → R) (n2 : Int) (n6 : Int) (p7 : PV) : exec (f11_E k) f11_cw1 (purgeK (f11_E k) f11_cw1 (loopK NX_w1 (kont (f11_E k) f11_code [1, 1, 0, 1, 0] (endK (f11_E k) Try.f11 [] f11_un retF)))) (f11_hw1_0 n2 n6 p7) = f11_w1b0 (fun y0 => retF y0) (fun n6 p7 => NX_w1 (f11_hw1_0 n2 n6 p7)) n2 n6 p7 := by kernel_rfl

noncomputable def f11_w1b0N (k : Nat) (ret0 : PV → R) (next_w1_0 : Int → PV → R) (n2 : Int) (n6 : Int) (p7 : PV) : R :=
  f11_w1b0 ret0 next_w1_0 n2 n6 p7
theorem f11_w1b0_eq (k : Nat) (retF : PV → R) (NX_w1 : St → R) (n2 : Int) (n6 : Int) (p7 : PV) : exec (f11_E k) f11_cw1 (purgeK (f11_E k) f11_cw1 (loopK NX_w1 (kont (f11_E k) f11_code [1, 1, 0, 1, 0] (endK (f11_E k) Try.f11 [] f11_un retF)))) (f11_hw1_0 n2 n6 p7) = f11_w1b0N k (fun y0 => retF y0) (fun n6 p7 => NX_w1 (f11_hw1_0 n2 n6 p7)) n2 n6 p7 :=
  (f11_w1b0_mem k retF NX_w1 n2 n6 p7)

noncomputable def f11_w1B (k : Nat) (ret0 : PV → R) (n2 : Int) (nx : Int × PV → R) : Int × PV → R := (fun s => f11_w1b0N k ret0 (fun n6 p7 => nx (n6, p7)) n2 s.1 s.2)
noncomputable def f11_w1N (k : Nat) (ret0 : PV → R) (n2 : Int) (n6 : Int) (p7 : PV) : R := loopR (f11_w1B k ret0 n2) k (n6, p7)
theorem f11_w1_eq (k : Nat) (retF : PV → R) (n2 : Int) (n6 : Int) (p7 : PV) : f11_w1A k retF n2 n6 p7 = f11_w1N k (fun y0 => retF y0) n2 n6 p7 :=
  Eq.mp (by kernel_rfl) (loop_sim (E := (f11_E k)) (c := f11_cw1) (K := (kont (f11_E k) f11_code [1, 1, 0, 1, 0] (endK (f11_E k) Try.f11 [] f11_un retF))) (S := Int × PV) (fun s => f11_hw1_0 n2 s.1 s.2) (f11_w1B k (fun y0 => retF y0) n2) (fun NX s => by
    exact Eq.mp (by kernel_rfl) (f11_w1b0_eq k retF NX n2 s.1 s.2)) k (n6, p7))

noncomputable def f11_e (ret0 : PV → R) (w1 : Int → PV → R) (n1 : Int) (n2 : Int) : R :=
  w1 (IntKind.wrap .i64 n1) (PV.agg [(PV.int 0), (PV.int 0), (PV.int 0), (PV.int 0)])

theorem f11_e_mem (k : Nat) (retF : PV → R) (n1 : Int) (n2 : Int) : exec (f11_E k) f11_code (endK (f11_E k) Try.f11 [] f11_un retF) ⟨[.int .u8 n1, .int .u8 n2, .undef, .undef, .undef, .undef, .undef, .undef, .undef, .undef, .undef, .undef, .undef, .undef, .undef, .undef, .undef, .undef, .undef, .undef, .undef, .undef, .undef, .undef, .undef], []⟩ = f11_e (fun y0 => retF y0) (fun n6 p7 => f11_w1A k retF n2 n6 p7) n1 n2 := by kernel_rfl

noncomputable def f11_N (k : Nat) (ret0 : PV → R) (n1 : Int) (n2 : Int) : R :=
  f11_e ret0 (fun n6 p7 => f11_w1N k ret0 n2 n6 p7) n1 n2
theorem f11_eq (k : Nat) (retF : PV → R) (n1 : Int) (n2 : Int) : exec (f11_E k) f11_code (endK (f11_E k) Try.f11 [] f11_un retF) ⟨[.int .u8 n1, .int .u8 n2, .undef, .undef, .undef, .undef, .undef, .undef, .undef, .undef, .undef, .undef, .undef, .undef, .undef, .undef, .undef, .undef, .undef, .undef, .undef, .undef, .undef, .undef, .undef], []⟩ = f11_N k (fun y0 => retF y0) n1 n2 :=
  (f11_e_mem k retF n1 n2).trans (by rw [show (fun n6 p7 => f11_w1A k retF n2 n6 p7) = (fun n6 p7 => f11_w1N k (fun y0 => retF y0) n2 n6 p7) from funext fun n6 => funext fun p7 => f11_w1_eq k retF n2 n6 p7]; rfl)

noncomputable def G11 : Nat → Int → Int → (PV → R) → R
  | 0, _, _, _ => none
  | k + 1, n1, n2, ret0 => f11_N k  ret0 n1 n2
theorem S11 : ∀ k, Snd Try.prog 11 f11_I f11_O (fun x ret => G11 k x.1 x.2 (fun y0 => ret y0))
  | 0 => snd_none
  | k + 1 => snd_step (E := f11_E k ) rfl laidOut noNums orc0_ok (f := 11) (fn := Try.f11) (code := f11_code) Try.func11 (by kernel_rfl) (drawsOk_of laidOut orc0_ok mixed (by kernel_rfl)) f11_un f11_un_ok [] (fun _ => rfl)
      (fun x ret => f11_eq k  ret x.1 x.2)

/- (catchpole/byteset.Set).Or -/
noncomputable def f12_I : PV × PV → List SV × Obs := fun x => ([.val 32 x.1, .val 32 x.2], [])
noncomputable def f12_D : List SV → Obs → Option (PV × PV)
  | [.val 32 p1, .val 32 p2], [] => some (p1, p2)
  | _, _ => none
theorem f12_D_ok (args : List SV) (B : Obs) (x : PV × PV) (h : f12_D args B = some x) : f12_I x = (args, B) := by
  unfold f12_D at h
  split at h
  · injection h with h; subst h; rfl
  · cases h
noncomputable def f12_O : PV → Out := (fun y => ([.val 32 y], []))
noncomputable def f12_un : Out → Option (PV)
  | ([.val 32 y0], []) => some y0
  | _ => none
theorem f12_un_ok (o : Out) (y : PV) (h : f12_un o = some y) : o = f12_O y := by
  unfold f12_un at h
  split at h
  · injection h with h; subst h; rfl
  · cases h
noncomputable def f12_msk : Nat → Option (List Nat) := fun key => bif key == 6 then some [2, 3, 4, 6] else none
noncomputable def f12_C : Oracle := orc0
noncomputable def f12_E (k : Nat) : Env := { P := Try.prog, nilOwn := fun d => false, fldOwn := fun d i => false, ownPar := ownPars, ownRet := false, mask := f12_msk, fuel := k, C := f12_C }
noncomputable def f12_code : Code := Try.f12.body.getD .skip
noncomputable def f12_cw1 : Code := subC f12_code [1, 0, 1, 0, 0]
noncomputable def f12_hw1_0 (p2 : PV) (n4 : Int) (p5 : PV) : St := ⟨[.dead, .dead, .ptr 2 [], .ptr 3 [], .ptr 4 [], .dead, .int .i64 n4, .dead, .dead, .dead, .dead, .dead, .dead, .dead, .dead, .dead, .dead, .dead, .dead], [(2, .box 32 (.val 32 p5)), (3, .box 32 (.val 32 p2)), (4, .box 32 (.val 32 (PV.agg [(PV.int 0), (PV.int 0), (PV.int 0), (PV.int 0)])))]⟩
noncomputable def f12_w1A (k : Nat) (retF : PV → R) (p2 : PV) (n4 : Int) (p5 : PV) : R := loopM (f12_E k) f12_cw1 (kont (f12_E k) f12_code [1, 0, 1, 0] (endK (f12_E k) Try.f12 [] f12_un retF)) k (f12_hw1_0 p2 n4 p5)
noncomputable def f12_w1b0 (ret0 : PV → R) (next_w1_0 : Int → PV → R) (p2 : PV) (n4 : Int) (p5 : PV) : R :=
  bif (decide (n4 < (4 : Int))) then
    bif (true && decide ((0 : Int) ≤ n4) && decide (n4 < 4)) then
      bif (true && decide ((0 : Int) ≤ n4) && decide (n4 < 4)) then
        bif (true && decide ((0 : Int) ≤ n4) && decide (n4 < 4)) then
          let p6 : PV := (PV.agg (List.set (PV.flds p5) (n4).toNat (PV.int (intBit .or .u64 (PV.num (PV.fld p5 (n4).toNat)) (PV.num (PV.fld p2 (n4).toNat))))))
          next_w1_0 (IntKind.wrap .i64 (n4 + (1 : Int))) p6
        else none
      else none
    else none
  else ret0 p5

theorem f12_w1b0_mem (k : Nat) (retF : PV → R) (NX_w1 : St → R) (p2 : PV) (n4 : Int) (p5 : PV) : exec (f12_E k) f12_cw1 (purgeK (f12_E k) f12_cw1 (loopK NX_w1 (kont (f12_E k) f12_code [1, 0, 1, 0] (endK (f12_E k) Try.f12 [] f12_un retF)))) (f12_hw1_0 p2 n4 p5) = f12_w1b0 (fun y0 => retF y0) (fun n4 p5 => NX_w1 (f12_hw1_0 p2 n4 p5)) p2 n4 p5 := by kernel_rfl

noncomputable def f12_w1b0N (k : Nat) (ret0 : PV → R) (next_w1_0 : Int → PV → R) (p2 : PV) (n4 : Int) (p5 : PV) : R :=
  f12_w1b0 ret0 next_w1_0 p2 n4 p5
theorem f12_w1b0_eq (k : Nat) (retF : PV → R) (NX_w1 : St → R) (p2 : PV) (n4 : Int) (p5 : PV) : exec (f12_E k) f12_cw1 (purgeK (f12_E k) f12_cw1 (loopK NX_w1 (kont (f12_E k) f12_code [1, 0, 1, 0] (endK (f12_E k) Try.f12 [] f12_un retF)))) (f12_hw1_0 p2 n4 p5) = f12_w1b0N k (fun y0 => retF y0) (fun n4 p5 => NX_w1 (f12_hw1_0 p2 n4 p5)) p2 n4 p5 :=
  (f12_w1b0_mem k retF NX_w1 p2 n4 p5)

noncomputable def f12_w1B (k : Nat) (ret0 : PV → R) (p2 : PV) (nx : Int × PV → R) : Int × PV → R := (fun s => f12_w1b0N k ret0 (fun n4 p5 => nx (n4, p5)) p2 s.1 s.2)
noncomputable def f12_w1N (k : Nat) (ret0 : PV → R) (p2 : PV) (n4 : Int) (p5 : PV) : R := loopR (f12_w1B k ret0 p2) k (n4, p5)
theorem f12_w1_eq (k : Nat) (retF : PV → R) (p2 : PV) (n4 : Int) (p5 : PV) : f12_w1A k retF p2 n4 p5 = f12_w1N k (fun y0 => retF y0) p2 n4 p5 :=
  Eq.mp (by kernel_rfl) (loop_sim (E := (f12_E k)) (c := f12_cw1) (K := (kont (f12_E k) f12_code [1, 0, 1, 0] (endK (f12_E k) Try.f12 [] f12_un retF))) (S := Int × PV) (fun s => f12_hw1_0 p2 s.1 s.2) (f12_w1B k (fun y0 => retF y0) p2) (fun NX s => by
    exact Eq.mp (by kernel_rfl) (f12_w1b0_eq k retF NX p2 s.1 s.2)) k (n4, p5))

noncomputable def f12_e (ret0 : PV → R) (w1 : Int → PV → R) (p1 : PV) (p2 : PV) : R :=
  w1 0 p1

theorem f12_e_mem (k : Nat) (retF : PV → R) (p1 : PV) (p2 : PV) : exec (f12_E k) f12_code (endK (f12_E k) Try.f12 [] f12_un retF) ⟨[.val 32 p1, .val 32 p2, .undef, .undef, .undef, .undef, .undef, .undef, .undef, .undef, .undef, .undef, .undef, .undef, .undef, .undef, .undef, .undef, .undef], []⟩ = f12_e (fun y0 => retF y0) (fun n4 p5 => f12_w1A k retF p2 n4 p5) p1 p2 := by kernel_rfl

noncomputable def f12_N (k : Nat) (ret0 : PV → R) (p1 : PV) (p2 : PV) : R :=
  f12_e ret0 (fun n4 p5 => f12_w1N k ret0 p2 n4 p5) p1 p2
theorem f12_eq (k : Nat) (retF : PV → R) (p1 : PV) (p2 : PV) : exec (f12_E k) f12_code (endK (f12_E k) Try.f12 [] f12_un retF) ⟨[.val 32 p1, .val 32 p2, .undef, .undef, .undef, .undef, .undef, .undef, .undef, .undef, .undef, .undef, .undef, .undef, .undef, .undef, .undef, .undef, .undef], []⟩ = f12_N k (fun y0 => retF y0) p1 p2 :=
  (f12_e_mem k retF p1 p2).trans (by rw [show (fun n4 p5 => f12_w1A k retF p2 n4 p5) = (fun n4 p5 => f12_w1N k (fun y0 => retF y0) p2 n4 p5) from funext fun n4 => funext fun p5 => f12_w1_eq k retF p2 n4 p5]; rfl)

noncomputable def G12 : Nat → PV → PV → (PV → R) → R
  | 0, _, _, _ => none
  | k + 1, p1, p2, ret0 => f12_N k  ret0 p1 p2
theorem S12 : ∀ k, Snd Try.prog 12 f12_I f12_O (fun x ret => G12 k x.1 x.2 (fun y0 => ret y0))
  | 0 => snd_none
  | k + 1 => snd_step (E := f12_E k ) rfl laidOut noNums orc0_ok (f := 12) (fn := Try.f12) (code := f12_code) Try.func12 (by kernel_rfl) (drawsOk_of laidOut orc0_ok mixed (by kernel_rfl)) f12_un f12_un_ok [] (fun _ => rfl)
      (fun x ret => f12_eq k  ret x.1 x.2)

/- (catchpole/byteset.Set).Not -/
noncomputable def f10_I : PV → List SV × Obs := fun x => ([.val 32 x], [])
noncomputable def f10_D : List SV → Obs → Option (PV)
  | [.val 32 p1], [] => some p1
  | _, _ => none
theorem f10_D_ok (args : List SV) (B : Obs) (x : PV) (h : f10_D args B = some x) : f10_I x = (args, B) := by
  unfold f10_D at h
  split at h
  · injection h with h; subst h; rfl
  · cases h
noncomputable def f10_O : PV → Out := (fun y => ([.val 32 y], []))
noncomputable def f10_un : Out → Option (PV)
  | ([.val 32 y0], []) => some y0
  | _ => none
theorem f10_un_ok (o : Out) (y : PV) (h : f10_un o = some y) : o = f10_O y := by
  unfold f10_un at h
  split at h
  · injection h with h; subst h; rfl
  · cases h
noncomputable def f10_msk : Nat → Option (List Nat) := fun key => bif key == 6 then some [1, 2, 4] else none
noncomputable def f10_C : Oracle := orc0
noncomputable def f10_E (k : Nat) : Env := { P := Try.prog, nilOwn := fun d => false, fldOwn := fun d i => false, ownPar := ownPars, ownRet := false, mask := f10_msk, fuel := k, C := f10_C }
noncomputable def f10_code : Code := Try.f10.body.getD .skip
noncomputable def f10_cw1 : Code := subC f10_code [1, 0, 1, 0, 0]
noncomputable def f10_hw1_0 (n3 : Int) (p4 : PV) : St := ⟨[.dead, .ptr 1 [], .ptr 2 [], .dead, .int .i64 n3, .dead, .dead, .dead, .dead, .dead, .dead, .dead, .dead, .dead, .dead], [(1, .box 32 (.val 32 p4)), (2, .box 32 (.val 32 (PV.agg [(PV.int 0), (PV.int 0), (PV.int 0), (PV.int 0)])))]⟩
noncomputable def f10_w1A (k : Nat) (retF : PV → R) (n3 : Int) (p4 : PV) : R := loopM (f10_E k) f10_cw1 (kont (f10_E k) f10_code [1, 0, 1, 0] (endK (f10_E k) Try.f10 [] f10_un retF)) k (f10_hw1_0 n3 p4)
noncomputable def f10_w1b0 (ret0 : PV → R) (next_w1_0 : Int → PV → R) (n3 : Int) (p4 : PV) : R :=
  bif (decide (n3 < (4 : Int))) then
    bif (true && decide ((0 : Int) ≤ n3) && decide (n3 < 4)) then
      bif (true && decide ((0 : Int) ≤ n3) && decide (n3 < 4)) then
        let p5 : PV := (PV.agg (List.set (PV.flds p4) (n3).toNat (PV.int (intBit .xor .u64 18446744073709551615 (PV.num (PV.fld p4 (n3).toNat))))))
        next_w1_0 (IntKind.wrap .i64 (n3 + (1 : Int))) p5
      else none
    else none
  else ret0 p4

theorem f10_w1b0_mem (k : Nat) (retF : PV → R) (NX_w1 : St → R) (n3 : Int) (p4 : PV) : exec (f10_E k) f10_cw1 (purgeK (f10_E k) f10_cw1 (loopK NX_w1 (kont (f10_E k) f10_code [1, 0, 1, 0] (endK (f10_E k) Try.f10 [] f10_un retF)))) (f10_hw1_0 n3 p4) = f10_w1b0 (fun y0 => retF y0) (fun n3 p4 => NX_w1 (f10_hw1_0 n3 p4)) n3 p4 := by kernel_rfl

noncomputable def f10_w1b0N (k : Nat) (ret0 : PV → R) (next_w1_0 : Int → PV → R) (n3 : Int) (p4 : PV) : R :=
  f10_w1b0 ret0 next_w1_0 n3 p4
theorem f10_w1b0_eq (k : Nat) (retF : PV → R) (NX_w1 : St → R) (n3 : Int) (p4 : PV) : exec (f10_E k) f10_cw1 (purgeK (f10_E k) f10_cw1 (loopK NX_w1 (kont (f10_E k) f10_code [1, 0, 1, 0] (endK (f10_E k) Try.f10 [] f10_un retF)))) (f10_hw1_0 n3 p4) = f10_w1b0N k (fun y0 => retF y0) (fun n3 p4 => NX_w1 (f10_hw1_0 n3 p4)) n3 p4 :=
  (f10_w1b0_mem k retF NX_w1 n3 p4)

noncomputable def f10_w1B (k : Nat) (ret0 : PV → R) (nx : Int × PV → R) : Int × PV → R := (fun s => f10_w1b0N k ret0 (fun n3 p4 => nx (n3, p4)) s.1 s.2)
noncomputable def f10_w1N (k : Nat) (ret0 : PV → R) (n3 : Int) (p4 : PV) : R := loopR (f10_w1B k ret0) k (n3, p4)
theorem f10_w1_eq (k : Nat) (retF : PV → R) (n3 : Int) (p4 : PV) : f10_w1A k retF n3 p4 = f10_w1N k (fun y0 => retF y0) n3 p4 :=
  Eq.mp (by kernel_rfl) (loop_sim (E := (f10_E k)) (c := f10_cw1) (K := (kont (f10_E k) f10_code [1, 0, 1, 0] (endK (f10_E k) Try.f10 [] f10_un retF))) (S := Int × PV) (fun s => f10_hw1_0 s.1 s.2) (f10_w1B k (fun y0 => retF y0)) (fun NX s => by
    exact Eq.mp (by kernel_rfl) (f10_w1b0_eq k retF NX s.1 s.2)) k (n3, p4))

noncomputable def f10_e (ret0 : PV → R) (w1 : Int → PV → R) (p1 : PV) : R :=
  w1 0 p1

theorem f10_e_mem (k : Nat) (retF : PV → R) (p1 : PV) : exec (f10_E k) f10_code (endK (f10_E k) Try.f10 [] f10_un retF) ⟨[.val 32 p1, .undef, .undef, .undef, .undef, .undef, .undef, .undef, .undef, .undef, .undef, .undef, .undef, .undef, .undef], []⟩ = f10_e (fun y0 => retF y0) (fun n3 p4 => f10_w1A k retF n3 p4) p1 := by kernel_rfl

noncomputable def f10_N (k : Nat) (ret0 : PV → R) (p1 : PV) : R :=
  f10_e ret0 (fun n3 p4 => f10_w1N k ret0 n3 p4) p1
theorem f10_eq (k : Nat) (retF : PV → R) (p1 : PV) : exec (f10_E k) f10_code (endK (f10_E k) Try.f10 [] f10_un retF) ⟨[.val 32 p1, .undef, .undef, .undef, .undef, .undef, .undef, .undef, .undef, .undef, .undef, .undef, .undef, .undef, .undef], []⟩ = f10_N k (fun y0 => retF y0) p1 :=
  (f10_e_mem k retF p1).trans (by rw [show (fun n3 p4 => f10_w1A k retF n3 p4) = (fun n3 p4 => f10_w1N k (fun y0 => retF y0) n3 p4) from funext fun n3 => funext fun p4 => f10_w1_eq k retF n3 p4]; rfl)

noncomputable def G10 : Nat → PV → (PV → R) → R
  | 0, _, _ => none
  | k + 1, p1, ret0 => f10_N k  ret0 p1
theorem S10 : ∀ k, Snd Try.prog 10 f10_I f10_O (fun x ret => G10 k x (fun y0 => ret y0))
  | 0 => snd_none
  | k + 1 => snd_step (E := f10_E k ) rfl laidOut noNums orc0_ok (f := 10) (fn := Try.f10) (code := f10_code) Try.func10 (by kernel_rfl) (drawsOk_of laidOut orc0_ok mixed (by kernel_rfl)) f10_un f10_un_ok [] (fun _ => rfl)
      (fun x ret => f10_eq k  ret x)

/- (catchpole/byteset.Set).And -/
noncomputable def f42_I : PV × PV → List SV × Obs := fun x => ([.val 32 x.1, .val 32 x.2], [])
noncomputable def f42_D : List SV → Obs → Option (PV × PV)
  | [.val 32 p1, .val 32 p2], [] => some (p1, p2)
  | _, _ => none
theorem f42_D_ok (args : List SV) (B : Obs) (x : PV × PV) (h : f42_D args B = some x) : f42_I x = (args, B) := by
  unfold f42_D at h
  split at h
  · injection h with h; subst h; rfl
  · cases h
noncomputable def f42_O : PV → Out := (fun y => ([.val 32 y], []))
noncomputable def f42_un : Out → Option (PV)
  | ([.val 32 y0], []) => some y0
  | _ => none
theorem f42_un_ok (o : Out) (y : PV) (h : f42_un o = some y) : o = f42_O y := by
  unfold f42_un at h
  split at h
  · injection h with h; subst h; rfl
  · cases h
noncomputable def f42_msk : Nat → Option (List Nat) := fun key => bif key == 6 then some [2, 3, 4, 6] else none
noncomputable def f42_C : Oracle := orc0
noncomputable def f42_E (k : Nat) : Env := { P := Try.prog, nilOwn := fun d => false, fldOwn := fun d i => false, ownPar := ownPars, ownRet := false, mask := f42_msk, fuel := k, C := f42_C }
noncomputable def f42_code : Code := Try.f42.body.getD .skip
noncomputable def f42_cw1 : Code := subC f42_code [1, 0, 1, 0, 0]
noncomputable def f42_hw1_0 (p2 : PV) (n4 : Int) (p5 : PV) : St := ⟨[.dead, .dead, .ptr 2 [], .ptr 3 [], .ptr 4 [], .dead, .int .i64 n4, .dead, .dead, .dead, .dead, .dead, .dead, .dead, .dead, .dead, .dead, .dead, .dead], [(2, .box 32 (.val 32 p5)), (3, .box 32 (.val 32 p2)), (4, .box 32 (.val 32 (PV.agg [(PV.int 0), (PV.int 0), (PV.int 0), (PV.int 0)])))]⟩
noncomputable def f42_w1A (k : Nat) (retF : PV → R) (p2 : PV) (n4 : Int) (p5 : PV) : R := loopM (f42_E k) f42_cw1 (kont (f42_E k) f42_code [1, 0, 1, 0] (endK (f42_E k) Try.f42 [] f42_un retF)) k (f42_hw1_0 p2 n4 p5)
noncomputable def f42_w1b0 (ret0 : PV → R) (next_w1_0 : Int → PV → R) (p2 : PV) (n4 : Int) (p5 : PV) : R :=
  bif (decide (n4 < (4 : Int))) then
    bif (true && decide ((0 : Int) ≤ n4) && decide (n4 < 4)) then
      bif (true && decide ((0 : Int) ≤ n4) && decide (n4 < 4)) then
        bif (true && decide ((0 : Int) ≤ n4) && decide (n4 < 4)) then
          let p6 : PV := (PV.agg (List.set (PV.flds p5) (n4).toNat (PV.int (intBit .and .u64 (PV.num (PV.fld p5 (n4).toNat)) (PV.num (PV.fld p2 (n4).toNat))))))
          next_w1_0 (IntKind.wrap .i64 (n4 + (1 : Int))) p6
        else none
      else none
    else none
  else ret0 p5

theorem f42_w1b0_mem (k : Nat) (retF : PV → R) (NX_w1 : St → R) (p2 : PV) (n4 : Int) (p5 : PV) : exec (f42_E k) f42_cw1 (purgeK (f42_E k) f42_cw1 (loopK NX_w1 (kont (f42_E k) f42_code [1, 0, 1, 0] (endK (f42_E k) Try.f42 [] f42_un retF)))) (f42_hw1_0 p2 n4 p5) = f42_w1b0 (fun y0 => retF y0) (fun n4 p5 => NX_w1 (f42_hw1_0 p2 n4 p5)) p2 n4 p5 := by kernel_rfl

noncomputable def f42_w1b0N (k : Nat) (ret0 : PV → R) (next_w1_0 : Int → PV → R) (p2 : PV) (n4 : Int) (p5 : PV) : R :=
  f42_w1b0 ret0 next_w1_0 p2 n4 p5
theorem f42_w1b0_eq (k : Nat) (retF : PV → R) (NX_w1 : St → R) (p2 : PV) (n4 : Int) (p5 : PV) : exec (f42_E k) f42_cw1 (purgeK (f42_E k) f42_cw1 (loopK NX_w1 (kont (f42_E k) f42_code [1, 0, 1, 0] (endK (f42_E k) Try.f42 [] f42_un retF)))) (f42_hw1_0 p2 n4 p5) = f42_w1b0N k (fun y0 => retF y0) (fun n4 p5 => NX_w1 (f42_hw1_0 p2 n4 p5)) p2 n4 p5 :=
  (f42_w1b0_mem k retF NX_w1 p2 n4 p5)

noncomputable def f42_w1B (k : Nat) (ret0 : PV → R) (p2 : PV) (nx : Int × PV → R) : Int × PV → R := (fun s => f42_w1b0N k ret0 (fun n4 p5 => nx (n4, p5)) p2 s.1 s.2)
noncomputable def f42_w1N (k : Nat) (ret0 : PV → R) (p2 : PV) (n4 : Int) (p5 : PV) : R := loopR (f42_w1B k ret0 p2) k (n4, p5)
theorem f42_w1_eq (k : Nat) (retF : PV → R) (p2 : PV) (n4 : Int) (p5 : PV) : f42_w1A k retF p2 n4 p5 = f42_w1N k (fun y0 => retF y0) p2 n4 p5 :=
  Eq.mp (by kernel_rfl) (loop_sim (E := (f42_E k)) (c := f42_cw1) (K := (kont (f42_E k) f42_code [1, 0, 1, 0] (endK (f42_E k) Try.f42 [] f42_un retF))) (S := Int × PV) (fun s => f42_hw1_0 p2 s.1 s.2) (f42_w1B k (fun y0 => retF y0) p2) (fun NX s => by
    exact Eq.mp (by kernel_rfl) (f42_w1b0_eq k retF NX p2 s.1 s.2)) k (n4, p5))

noncomputable def f42_e (ret0 : PV → R) (w1 : Int → PV → R) (p1 : PV) (p2 : PV) : R :=
  w1 0 p1

theorem f42_e_mem (k : Nat) (retF : PV → R) (p1 : PV) (p2 : PV) : exec (f42_E k) f42_code (endK (f42_E k) Try.f42 [] f42_un retF) ⟨[.val 32 p1, .val 32 p2, .undef, .undef, .undef, .undef, .undef, .undef, .undef, .undef, .undef, .undef, .undef, .undef, .undef, .undef, .undef, .undef, .undef], []⟩ = f42_e (fun y0 => retF y0) (fun n4 p5 => f42_w1A k retF p2 n4 p5) p1 p2 := by kernel_rfl

noncomputable def f42_N (k : Nat) (ret0 : PV → R) (p1 : PV) (p2 : PV) : R :=
  f42_e ret0 (fun n4 p5 => f42_w1N k ret0 p2 n4 p5) p1 p2
theorem f42_eq (k : Nat) (retF : PV → R) (p1 : PV) (p2 : PV) : exec (f42_E k) f42_code (endK (f42_E k) Try.f42 [] f42_un retF) ⟨[.val 32 p1, .val 32 p2, .undef, .undef, .undef, .undef, .undef, .undef, .undef, .undef, .undef, .undef, .undef, .undef, .undef, .undef, .undef, .undef, .undef], []⟩ = f42_N k (fun y0 => retF y0) p1 p2 :=
  (f42_e_mem k retF p1 p2).trans (by rw [show (fun n4 p5 => f42_w1A k retF p2 n4 p5) = (fun n4 p5 => f42_w1N k (fun y0 => retF y0) p2 n4 p5) from funext fun n4 => funext fun p5 => f42_w1_eq k retF p2 n4 p5]; rfl)

noncomputable def G42 : Nat → PV → PV → (PV → R) → R
  | 0, _, _, _ => none
  | k + 1, p1, p2, ret0 => f42_N k  ret0 p1 p2
theorem S42 : ∀ k, Snd Try.prog 42 f42_I f42_O (fun x ret => G42 k x.1 x.2 (fun y0 => ret y0))
  | 0 => snd_none
  | k + 1 => snd_step (E := f42_E k ) rfl laidOut noNums orc0_ok (f := 42) (fn := Try.f42) (code := f42_code) Try.func42 (by kernel_rfl) (drawsOk_of laidOut orc0_ok mixed (by kernel_rfl)) f42_un f42_un_ok [] (fun _ => rfl)
      (fun x ret => f42_eq k  ret x.1 x.2)

/- (catchpole/byteset.Set).Minus -/
noncomputable def f38_I : PV × PV → List SV × Obs := fun x => ([.val 32 x.1, .val 32 x.2], [])
noncomputable def f38_D : List SV → Obs → Option (PV × PV)
  | [.val 32 p1, .val 32 p2], [] => some (p1, p2)
  | _, _ => none
theorem f38_D_ok (args : List SV) (B : Obs) (x : PV × PV) (h : f38_D args B = some x) : f38_I x = (args, B) := by
  unfold f38_D at h
  split at h
  · injection h with h; subst h; rfl
  · cases h
noncomputable def f38_O : PV → Out := (fun y => ([.val 32 y], []))
noncomputable def f38_un : Out → Option (PV)
  | ([.val 32 y0], []) => some y0
  | _ => none
theorem f38_un_ok (o : Out) (y : PV) (h : f38_un o = some y) : o = f38_O y := by
  unfold f38_un at h
  split at h
  · injection h with h; subst h; rfl
  · cases h
noncomputable def f38_msk : Nat → Option (List Nat) := fun key =>  none
noncomputable def f38_C (c10 : PV → (PV → R) → R) (c42 : PV → PV → (PV → R) → R) : Oracle := orc 10 f10_D f10_O (fun x ret => c10 x (fun y0 => ret y0)) <| orc 42 f42_D f42_O (fun x ret => c42 x.1 x.2 (fun y0 => ret y0)) <| orc0
noncomputable def f38_E (k : Nat) (c10 : PV → (PV → R) → R) (c42 : PV → PV → (PV → R) → R) : Env := { P := Try.prog, nilOwn := fun d => false, fldOwn := fun d i => false, ownPar := ownPars, ownRet := false, mask := f38_msk, fuel := k, C := f38_C c10 c42 }
noncomputable def f38_code : Code := Try.f38.body.getD .skip
noncomputable def f38_e (c10 : PV → (PV → R) → R) (c42 : PV → PV → (PV → R) → R) (ret0 : PV → R) (p1 : PV) (p2 : PV) : R :=
  c10 p2 fun p3 =>
  c42 p1 p3 fun p4 =>
  ret0 p4

theorem f38_e_mem (k : Nat) (c10 : PV → (PV → R) → R) (c42 : PV → PV → (PV → R) → R) (retF : PV → R) (p1 : PV) (p2 : PV) : exec (f38_E k c10 c42) f38_code (endK (f38_E k c10 c42) Try.f38 [] f38_un retF) ⟨[.val 32 p1, .val 32 p2, .undef, .undef, .undef, .undef, .undef, .undef, .undef], []⟩ = f38_e c10 c42 (fun y0 => retF y0) p1 p2 := by kernel_rfl

noncomputable def f38_N (k : Nat) (c10 : PV → (PV → R) → R) (c42 : PV → PV → (PV → R) → R) (ret0 : PV → R) (p1 : PV) (p2 : PV) : R :=
  f38_e c10 c42 ret0 p1 p2
theorem f38_eq (k : Nat) (c10 : PV → (PV → R) → R) (c42 : PV → PV → (PV → R) → R) (retF : PV → R) (p1 : PV) (p2 : PV) : exec (f38_E k c10 c42) f38_code (endK (f38_E k c10 c42) Try.f38 [] f38_un retF) ⟨[.val 32 p1, .val 32 p2, .undef, .undef, .undef, .undef, .undef, .undef, .undef], []⟩ = f38_N k c10 c42 (fun y0 => retF y0) p1 p2 :=
  (f38_e_mem k c10 c42 retF p1 p2)

noncomputable def G38 : Nat → PV → PV → (PV → R) → R
  | 0, _, _, _ => none
  | k + 1, p1, p2, ret0 => f38_N k (G10 k) (G42 k) ret0 p1 p2
theorem S38 : ∀ k, Snd Try.prog 38 f38_I f38_O (fun x ret => G38 k x.1 x.2 (fun y0 => ret y0))
  | 0 => snd_none
  | k + 1 => snd_step (E := f38_E k (G10 k) (G42 k)) rfl laidOut noNums (orc_ok (S10 k).o f10_D_ok (orc_ok (S42 k).o f42_D_ok orc0_ok)) (f := 38) (fn := Try.f38) (code := f38_code) Try.func38 (by kernel_rfl) (drawsOk_of laidOut (orc_ok (S10 k).o f10_D_ok (orc_ok (S42 k).o f42_D_ok orc0_ok)) mixed (by kernel_rfl)) f38_un f38_un_ok [] (fun _ => rfl)
      (fun x ret => f38_eq k (G10 k) (G42 k) ret x.1 x.2)

/- catchpole/class.classes -/
noncomputable def f34_I : Unit → List SV × Obs := fun x => ([], [])
noncomputable def f34_D : List SV → Obs → Option (Unit)
  | [], [] => some ()
  | _, _ => none
theorem f34_D_ok (args : List SV) (B : Obs) (x : Unit) (h : f34_D args B = some x) : f34_I x = (args, B) := by
  unfold f34_D at h
  split at h
  · injection h with h; subst h; rfl
  · cases h
noncomputable def f34_O : PV → Out := (fun y => ([.val 69 y], []))
noncomputable def f34_un : Out → Option (PV)
  | ([.val 69 y0], []) => some y0
  | _ => none
theorem f34_un_ok (o : Out) (y : PV) (h : f34_un o = some y) : o = f34_O y := by
  unfold f34_un at h
  split at h
  · injection h with h; subst h; rfl
  · cases h
noncomputable def f34_msk : Nat → Option (List Nat) := fun key =>  none
noncomputable def f34_C (c9 : PV → (PV → R) → R) (c11 : Int → Int → (PV → R) → R) (c12 : PV → PV → (PV → R) → R) (c38 : PV → PV → (PV → R) → R) : Oracle := orc 9 f9_D f9_O (fun x ret => c9 x (fun y0 => ret y0)) <| orc 11 f11_D f11_O (fun x ret => c11 x.1 x.2 (fun y0 => ret y0)) <| orc 12 f12_D f12_O (fun x ret => c12 x.1 x.2 (fun y0 => ret y0)) <| orc 38 f38_D f38_O (fun x ret => c38 x.1 x.2 (fun y0 => ret y0)) <| orc0
noncomputable def f34_E (k : Nat) (c9 : PV → (PV → R) → R) (c11 : Int → Int → (PV → R) → R) (c12 : PV → PV → (PV → R) → R) (c38 : PV → PV → (PV → R) → R) : Env := { P := Try.prog, nilOwn := fun d => false, fldOwn := fun d i => false, ownPar := ownPars, ownRet := false, mask := f34_msk, fuel := k, C := f34_C c9 c11 c12 c38 }
noncomputable def f34_code : Code := Try.f34.body.getD .skip
noncomputable def f34_e (c9 : PV → (PV → R) → R) (c11 : Int → Int → (PV → R) → R) (c12 : PV → PV → (PV → R) → R) (c38 : PV → PV → (PV → R) → R) (ret0 : PV → R) : R :=
  c11 65 90 fun p1 =>
  c11 97 122 fun p2 =>
  c11 48 57 fun p3 =>
  c12 p1 p2 fun p4 =>
  c12 p4 p3 fun p5 =>
  c11 33 126 fun p6 =>
  c9 (PV.list [(PV.int 32), (PV.int 9)]) fun p7 =>
  c11 0 31 fun p8 =>
  c9 (PV.list [(PV.int 127)]) fun p9 =>
  c12 p8 p9 fun p10 =>
  c9 (PV.list [(PV.int 32)]) fun p11 =>
  c12 p6 p11 fun p12 =>
  c38 p6 p5 fun p13 =>
  c11 9 13 fun p14 =>
  c12 p7 p14 fun p15 =>
  c11 65 70 fun p16 =>
  c12 p3 p16 fun p17 =>
  c11 97 102 fun p18 =>
  c12 p17 p18 fun p19 =>
  ret0 (PV.list [(PV.agg [(PV.str [97, 108, 110, 117, 109]), p5]), (PV.agg [(PV.str [97, 108, 112, 104, 97]), p4]), (PV.agg [(PV.str [98, 108, 97, 110, 107]), p7]), (PV.agg [(PV.str [99, 110, 116, 114, 108]), p10]), (PV.agg [(PV.str [100, 105, 103, 105, 116]), p3]), (PV.agg [(PV.str [103, 114, 97, 112, 104]), p6]), (PV.agg [(PV.str [108, 111, 119, 101, 114]), p2]), (PV.agg [(PV.str [112, 114, 105, 110, 116]), p12]), (PV.agg [(PV.str [112, 117, 110, 99, 116]), p13]), (PV.agg [(PV.str [115, 112, 97, 99, 101]), p15]), (PV.agg [(PV.str [117, 112, 112, 101, 114]), p1]), (PV.agg [(PV.str [120, 100, 105, 103, 105, 116]), p19])])

theorem f34_e_mem (k : Nat) (c9 : PV → (PV → R) → R) (c11 : Int → Int → (PV → R) → R) (c12 : PV → PV → (PV → R) → R) (c38 : PV → PV → (PV → R) → R) (retF : PV → R) : exec (f34_E k c9 c11 c12 c38) f34_code (endK (f34_E k c9 c11 c12 c38) Try.f34 [] f34_un retF) ⟨[.undef, .undef, .undef, .undef, .undef, .undef, .undef, .undef, .undef, .undef, .undef, .undef, .undef, .undef, .undef, .undef, .undef, .undef, .undef, .undef, .undef, .undef, .undef, .undef, .undef, .undef, .undef, .undef, .undef, .undef, .undef, .undef, .undef, .undef, .undef, .undef, .undef, .undef, .undef, .undef, .undef, .undef, .undef, .undef, .undef, .undef, .undef, .undef, .undef, .undef, .undef, .undef, .undef, .undef, .undef, .undef, .undef, .undef, .undef], []⟩ = f34_e c9 c11 c12 c38 (fun y0 => retF y0) := by kernel_rfl

noncomputable def f34_N (k : Nat) (c9 : PV → (PV → R) → R) (c11 : Int → Int → (PV → R) → R) (c12 : PV → PV → (PV → R) → R) (c38 : PV → PV → (PV → R) → R) (ret0 : PV → R) : R :=
  f34_e c9 c11 c12 c38 ret0
theorem f34_eq (k : Nat) (c9 : PV → (PV → R) → R) (c11 : Int → Int → (PV → R) → R) (c12 : PV → PV → (PV → R) → R) (c38 : PV → PV → (PV → R) → R) (retF : PV → R) : exec (f34_E k c9 c11 c12 c38) f34_code (endK (f34_E k c9 c11 c12 c38) Try.f34 [] f34_un retF) ⟨[.undef, .undef, .undef, .undef, .undef, .undef, .undef, .undef, .undef, .undef, .undef, .undef, .undef, .undef, .undef, .undef, .undef, .undef, .undef, .undef, .undef, .undef, .undef, .undef, .undef, .undef, .undef, .undef, .undef, .undef, .undef, .undef, .undef, .undef, .undef, .undef, .undef, .undef, .undef, .undef, .undef, .undef, .undef, .undef, .undef, .undef, .undef, .undef, .undef, .undef, .undef, .undef, .undef, .undef, .undef, .undef, .undef, .undef, .undef], []⟩ = f34_N k c9 c11 c12 c38 (fun y0 => retF y0) :=
  (f34_e_mem k c9 c11 c12 c38 retF)

noncomputable def G34 : Nat → (PV → R) → R
  | 0, _ => none
  | k + 1, ret0 => f34_N k (G9 k) (G11 k) (G12 k) (G38 k) ret0 
theorem S34 : ∀ k, Snd Try.prog 34 f34_I f34_O (fun x ret => G34 k (fun y0 => ret y0))
  | 0 => snd_none
  | k + 1 => snd_step (E := f34_E k (G9 k) (G11 k) (G12 k) (G38 k)) rfl laidOut noNums (orc_ok (S9 k).o f9_D_ok (orc_ok (S11 k).o f11_D_ok (orc_ok (S12 k).o f12_D_ok (orc_ok (S38 k).o f38_D_ok orc0_ok)))) (f := 34) (fn := Try.f34) (code := f34_code) Try.func34 (by kernel_rfl) (drawsOk_of laidOut (orc_ok (S9 k).o f9_D_ok (orc_ok (S11 k).o f11_D_ok (orc_ok (S12 k).o f12_D_ok (orc_ok (S38 k).o f38_D_ok orc0_ok)))) mixed (by kernel_rfl)) f34_un f34_un_ok [] (fun _ => rfl)
      (fun x ret => f34_eq k (G9 k) (G11 k) (G12 k) (G38 k) ret)

/- catchpole/class.Named$1 -/
noncomputable def f36_I : PV × (List Int) → List SV × Obs := fun x => ([.val 73 x.1, .ptr 4000000 []], [(4000000, .box 9 (.str x.2))])
noncomputable def f36_D : List SV → Obs → Option (PV × (List Int))
  | [.val 73 p1, .ptr 4000000 []], [(4000000, .box 9 (.str s2))] => some (p1, s2)
  | _, _ => none
theorem f36_D_ok (args : List SV) (B : Obs) (x : PV × (List Int)) (h : f36_D args B = some x) : f36_I x = (args, B) := by
  unfold f36_D at h
  split at h
  · injection h with h; subst h; rfl
  · cases h
noncomputable def f36_O : Bool × (List Int) → Out := (fun y => ([.bool y.1], [(4000000, .box 9 (.str y.2))]))
noncomputable def f36_un : Out → Option (Bool × (List Int))
  | ([.bool y0], [(4000000, .box 9 (.str y1))]) => some (y0, y1)
  | _ => none
theorem f36_un_ok (o : Out) (y : Bool × (List Int)) (h : f36_un o = some y) : o = f36_O y := by
  unfold f36_un at h
  split at h
  · injection h with h; subst h; rfl
  · cases h
noncomputable def f36_msk : Nat → Option (List Nat) := fun key =>  none
noncomputable def f36_C : Oracle := orc0
noncomputable def f36_E (k : Nat) : Env := { P := Try.prog, nilOwn := fun d => false, fldOwn := fun d i => false, ownPar := ownPars, ownRet := false, mask := f36_msk, fuel := k, C := f36_C }
noncomputable def f36_code : Code := Try.f36.body.getD .skip
noncomputable def f36_e (ret0 : Bool → (List Int) → R) (p1 : PV) (s2 : List Int) : R :=
  ret0 (decide (((PV.chars (PV.fld p1 0)) : List Int) = s2)) s2

theorem f36_e_mem (k : Nat) (retF : Bool × (List Int) → R) (p1 : PV) (s2 : List Int) : exec (f36_E k) f36_code (endK (f36_E k) Try.f36 [4000000] f36_un retF) ⟨[.val 73 p1, .ptr 4000000 [], .undef, .undef, .undef, .undef, .undef, .undef], [(4000000, .box 9 (.str s2))]⟩ = f36_e (fun y0 y1 => retF (y0, y1)) p1 s2 := by kernel_rfl

noncomputable def f36_N (k : Nat) (ret0 : Bool → (List Int) → R) (p1 : PV) (s2 : List Int) : R :=
  f36_e ret0 p1 s2
theorem f36_eq (k : Nat) (retF : Bool × (List Int) → R) (p1 : PV) (s2 : List Int) : exec (f36_E k) f36_code (endK (f36_E k) Try.f36 [4000000] f36_un retF) ⟨[.val 73 p1, .ptr 4000000 [], .undef, .undef, .undef, .undef, .undef, .undef], [(4000000, .box 9 (.str s2))]⟩ = f36_N k (fun y0 y1 => retF (y0, y1)) p1 s2 :=
  (f36_e_mem k retF p1 s2)

noncomputable def G36 : Nat → PV → (List Int) → (Bool → (List Int) → R) → R
  | 0, _, _, _ => none
  | k + 1, p1, s2, ret0 => f36_N k  ret0 p1 s2
theorem S36 : ∀ k, Snd Try.prog 36 f36_I f36_O (fun x ret => G36 k x.1 x.2 (fun y0 y1 => ret (y0, y1)))
  | 0 => snd_none
  | k + 1 => snd_step (E := f36_E k ) rfl laidOut noNums orc0_ok (f := 36) (fn := Try.f36) (code := f36_code) Try.func36 (by kernel_rfl) (drawsOk_of laidOut orc0_ok mixed (by kernel_rfl)) f36_un f36_un_ok [4000000] (fun _ => rfl)
      (fun x ret => f36_eq k  ret x.1 x.2)

/- slices.IndexFunc[[]catchpole/class.named,catchpole/class.named] -/
noncomputable def f35_I : PV × (List Int) → List SV × Obs := fun x => ([.val 69 x.1, .fn 36 [.ptr 4001000 []]], [(4001000, .box 9 (.str x.2))])
noncomputable def f35_D : List SV → Obs → Option (PV × (List Int))
  | [.val 69 p1, .fn 36 [.ptr 4001000 []]], [(4001000, .box 9 (.str s2))] => some (p1, s2)
  | _, _ => none
theorem f35_D_ok (args : List SV) (B : Obs) (x : PV × (List Int)) (h : f35_D args B = some x) : f35_I x = (args, B) := by
  unfold f35_D at h
  split at h
  · injection h with h; subst h; rfl
  · cases h
noncomputable def f35_O : Int × (List Int) → Out := (fun y => ([.int .i64 y.1], [(4001000, .box 9 (.str y.2))]))
noncomputable def f35_un : Out → Option (Int × (List Int))
  | ([.int .i64 y0], [(4001000, .box 9 (.str y1))]) => some (y0, y1)
  | _ => none
theorem f35_un_ok (o : Out) (y : Int × (List Int)) (h : f35_un o = some y) : o = f35_O y := by
  unfold f35_un at h
  split at h
  · injection h with h; subst h; rfl
  · cases h
noncomputable def f35_msk : Nat → Option (List Nat) := fun key => bif key == 6 then some [0, 1, 7, 8] else none
noncomputable def f35_C (c36 : PV → (List Int) → (Bool → (List Int) → R) → R) : Oracle := orc 36 f36_D f36_O (fun x ret => c36 x.1 x.2 (fun y0 y1 => ret (y0, y1))) <| orc0
noncomputable def f35_E (k : Nat) (c36 : PV → (List Int) → (Bool → (List Int) → R) → R) : Env := { P := Try.prog, nilOwn := fun d => false, fldOwn := fun d i => false, ownPar := ownPars, ownRet := false, mask := f35_msk, fuel := k, C := f35_C c36 }
noncomputable def f35_code : Code := Try.f35.body.getD .skip
noncomputable def f35_cw1 : Code := subC f35_code [1, 0, 1, 0, 0]
noncomputable def f35_hw1_0 (p1 : PV) (n5 : Int) (s6 : List Int) : St := ⟨[.val 69 p1, .fn 36 [.ptr 4001000 []], .dead, .dead, .dead, .dead, .dead, .int .i64 (List.length (PV.els p1) : Int), .int .i64 n5, .dead, .dead, .dead, .dead, .dead, .dead, .dead, .dead, .dead, .dead], [(4001000, .box 9 (.str s6))]⟩
noncomputable def f35_w1A (k : Nat) (c36 : PV → (List Int) → (Bool → (List Int) → R) → R) (retF : Int × (List Int) → R) (p1 : PV) (n5 : Int) (s6 : List Int) : R := loopM (f35_E k c36) f35_cw1 (kont (f35_E k c36) f35_code [1, 0, 1, 0] (endK (f35_E k c36) Try.f35 [4001000] f35_un retF)) k (f35_hw1_0 p1 n5 s6)
noncomputable def f35_w1b0 (c36 : PV → (List Int) → (Bool → (List Int) → R) → R) (ret0 : Int → (List Int) → R) (next_w1_0 : Int → (List Int) → R) (p1 : PV) (n5 : Int) (s6 : List Int) : R :=
  bif (decide (n5 < (List.length (PV.els p1) : Int))) then
    bif (true && decide ((0 : Int) ≤ n5) && decide (n5 < (List.length (PV.els p1) : Int))) then
      c36 (List.getD (PV.els p1) (n5).toNat PV.nil) s6 fun b7 s8 =>
      bif b7 then
        ret0 n5 s8
      else next_w1_0 (IntKind.wrap .i64 (n5 + (1 : Int))) s8
    else none
  else ret0 (-1) s6

theorem f35_w1b0_mem (k : Nat) (c36 : PV → (List Int) → (Bool → (List Int) → R) → R) (retF : Int × (List Int) → R) (NX_w1 : St → R) (p1 : PV) (n5 : Int) (s6 : List Int) : exec (f35_E k c36) f35_cw1 (purgeK (f35_E k c36) f35_cw1 (loopK NX_w1 (kont (f35_E k c36) f35_code [1, 0, 1, 0] (endK (f35_E k c36) Try.f35 [4001000] f35_un retF)))) (f35_hw1_0 p1 n5 s6) = f35_w1b0 c36 (fun y0 y1 => retF (y0, y1)) (fun n5 s6 => NX_w1 (f35_hw1_0 p1 n5 s6)) p1 n5 s6 := by kernel_rfl

noncomputable def f35_w1b0N (k : Nat) (c36 : PV → (List Int) → (Bool → (List Int) → R) → R) (ret0 : Int → (List Int) → R) (next_w1_0 : Int → (List Int) → R) (p1 : PV) (n5 : Int) (s6 : List Int) : R :=
  f35_w1b0 c36 ret0 next_w1_0 p1 n5 s6
theorem f35_w1b0_eq (k : Nat) (c36 : PV → (List Int) → (Bool → (List Int) → R) → R) (retF : Int × (List Int) → R) (NX_w1 : St → R) (p1 : PV) (n5 : Int) (s6 : List Int) : exec (f35_E k c36) f35_cw1 (purgeK (f35_E k c36) f35_cw1 (loopK NX_w1 (kont (f35_E k c36) f35_code [1, 0, 1, 0] (endK (f35_E k c36) Try.f35 [4001000] f35_un retF)))) (f35_hw1_0 p1 n5 s6) = f35_w1b0N k c36 (fun y0 y1 => retF (y0, y1)) (fun n5 s6 => NX_w1 (f35_hw1_0 p1 n5 s6)) p1 n5 s6 :=
  (f35_w1b0_mem k c36 retF NX_w1 p1 n5 s6)

noncomputable def f35_w1B (k : Nat) (c36 : PV → (List Int) → (Bool → (List Int) → R) → R) (ret0 : Int → (List Int) → R) (p1 : PV) (nx : Int × (List Int) → R) : Int × (List Int) → R := (fun s => f35_w1b0N k c36 ret0 (fun n5 s6 => nx (n5, s6)) p1 s.1 s.2)
noncomputable def f35_w1N (k : Nat) (c36 : PV → (List Int) → (Bool → (List Int) → R) → R) (ret0 : Int → (List Int) → R) (p1 : PV) (n5 : Int) (s6 : List Int) : R := loopR (f35_w1B k c36 ret0 p1) k (n5, s6)
theorem f35_w1_eq (k : Nat) (c36 : PV → (List Int) → (Bool → (List Int) → R) → R) (retF : Int × (List Int) → R) (p1 : PV) (n5 : Int) (s6 : List Int) : f35_w1A k c36 retF p1 n5 s6 = f35_w1N k c36 (fun y0 y1 => retF (y0, y1)) p1 n5 s6 :=
  Eq.mp (by kernel_rfl) (loop_sim (E := (f35_E k c36)) (c := f35_cw1) (K := (kont (f35_E k c36) f35_code [1, 0, 1, 0] (endK (f35_E k c36) Try.f35 [4001000] f35_un retF))) (S := Int × (List Int)) (fun s => f35_hw1_0 p1 s.1 s.2) (f35_w1B k c36 (fun y0 y1 => retF (y0, y1)) p1) (fun NX s => by
    exact Eq.mp (by kernel_rfl) (f35_w1b0_eq k c36 retF NX p1 s.1 s.2)) k (n5, s6))

noncomputable def f35_e (c36 : PV → (List Int) → (Bool → (List Int) → R) → R) (ret0 : Int → (List Int) → R) (w1 : Int → (List Int) → R) (p1 : PV) (s2 : List Int) : R :=
  w1 0 s2

theorem f35_e_mem (k : Nat) (c36 : PV → (List Int) → (Bool → (List Int) → R) → R) (retF : Int × (List Int) → R) (p1 : PV) (s2 : List Int) : exec (f35_E k c36) f35_code (endK (f35_E k c36) Try.f35 [4001000] f35_un retF) ⟨[.val 69 p1, .fn 36 [.ptr 4001000 []], .undef, .undef, .undef, .undef, .undef, .undef, .undef, .undef, .undef, .undef, .undef, .undef, .undef, .undef, .undef, .undef, .undef], [(4001000, .box 9 (.str s2))]⟩ = f35_e c36 (fun y0 y1 => retF (y0, y1)) (fun n5 s6 => f35_w1A k c36 retF p1 n5 s6) p1 s2 := by kernel_rfl

noncomputable def f35_N (k : Nat) (c36 : PV → (List Int) → (Bool → (List Int) → R) → R) (ret0 : Int → (List Int) → R) (p1 : PV) (s2 : List Int) : R :=
  f35_e c36 ret0 (fun n5 s6 => f35_w1N k c36 ret0 p1 n5 s6) p1 s2
theorem f35_eq (k : Nat) (c36 : PV → (List Int) → (Bool → (List Int) → R) → R) (retF : Int × (List Int) → R) (p1 : PV) (s2 : List Int) : exec (f35_E k c36) f35_code (endK (f35_E k c36) Try.f35 [4001000] f35_un retF) ⟨[.val 69 p1, .fn 36 [.ptr 4001000 []], .undef, .undef, .undef, .undef, .undef, .undef, .undef, .undef, .undef, .undef, .undef, .undef, .undef, .undef, .undef, .undef, .undef], [(4001000, .box 9 (.str s2))]⟩ = f35_N k c36 (fun y0 y1 => retF (y0, y1)) p1 s2 :=
  (f35_e_mem k c36 retF p1 s2).trans (by rw [show (fun n5 s6 => f35_w1A k c36 retF p1 n5 s6) = (fun n5 s6 => f35_w1N k c36 (fun y0 y1 => retF (y0, y1)) p1 n5 s6) from funext fun n5 => funext fun s6 => f35_w1_eq k c36 retF p1 n5 s6]; rfl)

noncomputable def G35 : Nat → PV → (List Int) → (Int → (List Int) → R) → R
  | 0, _, _, _ => none
  | k + 1, p1, s2, ret0 => f35_N k (G36 k) ret0 p1 s2
theorem S35 : ∀ k, Snd Try.prog 35 f35_I f35_O (fun x ret => G35 k x.1 x.2 (fun y0 y1 => ret (y0, y1)))
  | 0 => snd_none
  | k + 1 => snd_step (E := f35_E k (G36 k)) rfl laidOut noNums (orc_ok (S36 k).o f36_D_ok orc0_ok) (f := 35) (fn := Try.f35) (code := f35_code) Try.func35 (by kernel_rfl) (drawsOk_of laidOut (orc_ok (S36 k).o f36_D_ok orc0_ok) mixed (by kernel_rfl)) f35_un f35_un_ok [4001000] (fun _ => rfl)
      (fun x ret => f35_eq k (G36 k) ret x.1 x.2)

/- catchpole/class.Named -/
noncomputable def f29_I : (List Int) → List SV × Obs := fun x => ([.str x], [])
noncomputable def f29_D : List SV → Obs → Option ((List Int))
  | [.str s1], [] => some s1
  | _, _ => none
theorem f29_D_ok (args : List SV) (B : Obs) (x : (List Int)) (h : f29_D args B = some x) : f29_I x = (args, B) := by
  unfold f29_D at h
  split at h
  · injection h with h; subst h; rfl
  · cases h
noncomputable def f29_O : PV × Bool → Out := (fun y => ([.val 32 y.1, .bool y.2], []))
noncomputable def f29_un : Out → Option (PV × Bool)
  | ([.val 32 y0, .bool y1], []) => some (y0, y1)
  | _ => none
theorem f29_un_ok (o : Out) (y : PV × Bool) (h : f29_un o = some y) : o = f29_O y := by
  unfold f29_un at h
  split at h
  · injection h with h; subst h; rfl
  · cases h
noncomputable def f29_msk : Nat → Option (List Nat) := fun key =>  none
noncomputable def f29_C (c34 : (PV → R) → R) (c35 : PV → (List Int) → (Int → (List Int) → R) → R) : Oracle := orc 34 f34_D f34_O (fun x ret => c34 (fun y0 => ret y0)) <| orc 35 f35_D f35_O (fun x ret => c35 x.1 x.2 (fun y0 y1 => ret (y0, y1))) <| orc0
noncomputable def f29_E (k : Nat) (c34 : (PV → R) → R) (c35 : PV → (List Int) → (Int → (List Int) → R) → R) : Env := { P := Try.prog, nilOwn := fun d => false, fldOwn := fun d i => false, ownPar := ownPars, ownRet := false, mask := f29_msk, fuel := k, C := f29_C c34 c35 }
noncomputable def f29_code : Code := Try.f29.body.getD .skip
noncomputable def f29_e (c34 : (PV → R) → R) (c35 : PV → (List Int) → (Int → (List Int) → R) → R) (ret0 : PV → Bool → R) (s1 : List Int) : R :=
  c34 fun p2 =>
  c35 p2 s1 fun n3 s4 =>
  bif (decide (n3 < (0 : Int))) then
    ret0 (PV.agg [(PV.int 0), (PV.int 0), (PV.int 0), (PV.int 0)]) false
  else bif (true && decide ((0 : Int) ≤ n3) && decide (n3 < (List.length (PV.els p2) : Int))) then
    ret0 (PV.fld (List.getD (PV.els p2) (n3).toNat PV.nil) 1) true
  else none

theorem f29_e_mem (k : Nat) (c34 : (PV → R) → R) (c35 : PV → (List Int) → (Int → (List Int) → R) → R) (retF : PV × Bool → R) (s1 : List Int) : exec (f29_E k c34 c35) f29_code (endK (f29_E k c34 c35) Try.f29 [] f29_un retF) ⟨[.str s1, .undef, .undef, .undef, .undef, .undef, .undef, .undef, .undef, .undef, .undef, .undef, .undef, .undef, .undef, .undef, .undef, .undef], []⟩ = f29_e c34 c35 (fun y0 y1 => retF (y0, y1)) s1 := by kernel_rfl

noncomputable def f29_N (k : Nat) (c34 : (PV → R) → R) (c35 : PV → (List Int) → (Int → (List Int) → R) → R) (ret0 : PV → Bool → R) (s1 : List Int) : R :=
  f29_e c34 c35 ret0 s1
theorem f29_eq (k : Nat) (c34 : (PV → R) → R) (c35 : PV → (List Int) → (Int → (List Int) → R) → R) (retF : PV × Bool → R) (s1 : List Int) : exec (f29_E k c34 c35) f29_code (endK (f29_E k c34 c35) Try.f29 [] f29_un retF) ⟨[.str s1, .undef, .undef, .undef, .undef, .undef, .undef, .undef, .undef, .undef, .undef, .undef, .undef, .undef, .undef, .undef, .undef, .undef], []⟩ = f29_N k c34 c35 (fun y0 y1 => retF (y0, y1)) s1 :=
  (f29_e_mem k c34 c35 retF s1)

noncomputable def G29 : Nat → (List Int) → (PV → Bool → R) → R
  | 0, _, _ => none
  | k + 1, s1, ret0 => f29_N k (G34 k) (G35 k) ret0 s1
theorem S29 : ∀ k, Snd Try.prog 29 f29_I f29_O (fun x ret => G29 k x (fun y0 y1 => ret (y0, y1)))
  | 0 => snd_none
  | k + 1 => snd_step (E := f29_E k (G34 k) (G35 k)) rfl laidOut noNums (orc_ok (S34 k).o f34_D_ok (orc_ok (S35 k).o f35_D_ok orc0_ok)) (f := 29) (fn := Try.f29) (code := f29_code) Try.func29 (by kernel_rfl) (drawsOk_of laidOut (orc_ok (S34 k).o f34_D_ok (orc_ok (S35 k).o f35_D_ok orc0_ok)) mixed (by kernel_rfl)) f29_un f29_un_ok [] (fun _ => rfl)
      (fun x ret => f29_eq k (G34 k) (G35 k) ret x)

/- (*catchpole/token.cutter).end -/
noncomputable def f30_I : PV → List SV × Obs := fun x => ([.ptr 2000000 []], [(2000000, .box 48 (.val 48 x))])
noncomputable def f30_D : List SV → Obs → Option (PV)
  | [.ptr 2000000 []], [(2000000, .box 48 (.val 48 p1))] => some p1
  | _, _ => none
theorem f30_D_ok (args : List SV) (B : Obs) (x : PV) (h : f30_D args B = some x) : f30_I x = (args, B) := by
  unfold f30_D at h
  split at h
  · injection h with h; subst h; rfl
  · cases h
noncomputable def f30_O : Int × Int × PV → Out := (fun y => ([.int .u8 y.1, .int .i64 y.2.1], [(2000000, .box 48 (.val 48 y.2.2))]))
noncomputable def f30_un : Out → Option (Int × Int × PV)
  | ([.int .u8 y0, .int .i64 y1], [(2000000, .box 48 (.val 48 y2))]) => some (y0, y1, y2)
  | _ => none
theorem f30_un_ok (o : Out) (y : Int × Int × PV) (h : f30_un o = some y) : o = f30_O y := by
  unfold f30_un at h
  split at h
  · injection h with h; subst h; rfl
  · cases h
noncomputable def f30_msk : Nat → Option (List Nat) := fun key =>  none
noncomputable def f30_C (c16 : (List Int) → PV → (Bool → PV → R) → R) : Oracle := orc 16 f16_D f16_O (fun x ret => c16 x.1 x.2 (fun y0 y1 => ret (y0, y1))) <| orc0
noncomputable def f30_E (k : Nat) (c16 : (List Int) → PV → (Bool → PV → R) → R) : Env := { P := Try.prog, nilOwn := fun d => false, fldOwn := fun d i => false, ownPar := ownPars, ownRet := false, mask := f30_msk, fuel := k, C := f30_C c16 }
noncomputable def f30_code : Code := Try.f30.body.getD .skip
noncomputable def f30_e (c16 : (List Int) → PV → (Bool → PV → R) → R) (ret0 : Int → Int → PV → R) (p1 : PV) : R :=
  bif ((decide ((PV.num (PV.fld p1 1)) = (List.length (PV.chars (PV.fld p1 0)) : Int))) == false) then
    c16 [91, 58] p1 fun b2 p3 =>
    bif b2 then
      ret0 0 2 p3
    else c16 [91, 46] p3 fun b4 p5 =>
    bif (b4 == false) then
      c16 [91, 61] p5 fun b6 p7 =>
      bif b6 then
        ret0 0 3 p7
      else let s8 : List Int := (PV.chars (PV.fld (PV.agg (List.set (PV.flds p7) 1 (PV.int (IntKind.wrap .i64 ((PV.num (PV.fld p7 1)) + (1 : Int)))))) 0))
      let n9 : Int := (PV.num (PV.fld (PV.agg (List.set (PV.flds p7) 1 (PV.int (IntKind.wrap .i64 ((PV.num (PV.fld p7 1)) + (1 : Int)))))) 1))
      bif (decide ((0 : Int) ≤ (IntKind.wrap .i64 (n9 - (1 : Int)))) && decide ((IntKind.wrap .i64 (n9 - (1 : Int))) < (List.length s8 : Int))) then
        ret0 (List.getD s8 ((IntKind.wrap .i64 (n9 - (1 : Int)))).toNat 0) 0 (PV.agg (List.set (PV.flds p7) 1 (PV.int (IntKind.wrap .i64 ((PV.num (PV.fld p7 1)) + (1 : Int))))))
      else none
    else ret0 0 3 p5
  else ret0 0 2 p1

theorem f30_e_mem (k : Nat) (c16 : (List Int) → PV → (Bool → PV → R) → R) (retF : Int × Int × PV → R) (p1 : PV) : exec (f30_E k c16) f30_code (endK (f30_E k c16) Try.f30 [2000000] f30_un retF) ⟨[.ptr 2000000 [], .undef, .undef, .undef, .undef, .undef, .undef, .undef, .undef, .undef, .undef, .undef, .undef, .undef, .undef, .undef, .undef, .undef, .undef, .undef, .undef, .undef, .undef, .undef, .undef, .undef, .undef, .undef, .undef, .undef, .undef, .undef, .undef, .undef, .undef, .undef, .undef, .undef, .undef, .undef, .undef], [(2000000, .box 48 (.val 48 p1))]⟩ = f30_e c16 (fun y0 y1 y2 => retF (y0, y1, y2)) p1 := by kernel_rfl

noncomputable def f30_N (k : Nat) (c16 : (List Int) → PV → (Bool → PV → R) → R) (ret0 : Int → Int → PV → R) (p1 : PV) : R :=
  f30_e c16 ret0 p1
theorem f30_eq (k : Nat) (c16 : (List Int) → PV → (Bool → PV → R) → R) (retF : Int × Int × PV → R) (p1 : PV) : exec (f30_E k c16) f30_code (endK (f30_E k c16) Try.f30 [2000000] f30_un retF) ⟨[.ptr 2000000 [], .undef, .undef, .undef, .undef, .undef, .undef, .undef, .undef, .undef, .undef, .undef, .undef, .undef, .undef, .undef, .undef, .undef, .undef, .undef, .undef, .undef, .undef, .undef, .undef, .undef, .undef, .undef, .undef, .undef, .undef, .undef, .undef, .undef, .undef, .undef, .undef, .undef, .undef, .undef, .undef], [(2000000, .box 48 (.val 48 p1))]⟩ = f30_N k c16 (fun y0 y1 y2 => retF (y0, y1, y2)) p1 :=
  (f30_e_mem k c16 retF p1)

noncomputable def G30 : Nat → PV → (Int → Int → PV → R) → R
  | 0, _, _ => none
  | k + 1, p1, ret0 => f30_N k (G16 k) ret0 p1
theorem S30 : ∀ k, Snd Try.prog 30 f30_I f30_O (fun x ret => G30 k x (fun y0 y1 y2 => ret (y0, y1, y2)))
  | 0 => snd_none
  | k + 1 => snd_step (E := f30_E k (G16 k)) rfl laidOut noNums (orc_ok (S16 k).o f16_D_ok orc0_ok) (f := 30) (fn := Try.f30) (code := f30_code) Try.func30 (by kernel_rfl) (drawsOk_of laidOut (orc_ok (S16 k).o f16_D_ok orc0_ok) mixed (by kernel_rfl)) f30_un f30_un_ok [2000000] (fun _ => rfl)
      (fun x ret => f30_eq k (G16 k) ret x)

/- (*catchpole/token.cutter).item -/
noncomputable def f24_I : Bool × PV → List SV × Obs := fun x => ([.ptr 2000000 [], .bool x.1], [(2000000, .box 48 (.val 48 x.2))])
noncomputable def f24_D : List SV → Obs → Option (Bool × PV)
  | [.ptr 2000000 [], .bool b1], [(2000000, .box 48 (.val 48 p2))] => some (b1, p2)
  | _, _ => none
theorem f24_D_ok (args : List SV) (B : Obs) (x : Bool × PV) (h : f24_D args B = some x) : f24_I x = (args, B) := by
  unfold f24_D at h
  split at h
  · injection h with h; subst h; rfl
  · cases h
noncomputable def f24_O : PV × Int × PV → Out := (fun y => ([.val 32 y.1, .int .i64 y.2.1], [(2000000, .box 48 (.val 48 y.2.2))]))
noncomputable def f24_un : Out → Option (PV × Int × PV)
  | ([.val 32 y0, .int .i64 y1], [(2000000, .box 48 (.val 48 y2))]) => some (y0, y1, y2)
  | _ => none
theorem f24_un_ok (o : Out) (y : PV × Int × PV) (h : f24_un o = some y) : o = f24_O y := by
  unfold f24_un at h
  split at h
  · injection h with h; subst h; rfl
  · cases h
noncomputable def f24_msk : Nat → Option (List Nat) := fun key =>  none
noncomputable def f24_C (c9 : PV → (PV → R) → R) (c11 : Int → Int → (PV → R) → R) (c16 : (List Int) → PV → (Bool → PV → R) → R) (c22 : (List Int) → (List Int) → (Bool → R) → R) (c28 : (List Int) → (List Int) → ((List Int) → (List Int) → Bool → R) → R) (c29 : (List Int) → (PV → Bool → R) → R) (c30 : PV → (Int → Int → PV → R) → R) : Oracle := orc 9 f9_D f9_O (fun x ret => c9 x (fun y0 => ret y0)) <| orc 11 f11_D f11_O (fun x ret => c11 x.1 x.2 (fun y0 => ret y0)) <| orc 16 f16_D f16_O (fun x ret => c16 x.1 x.2 (fun y0 y1 => ret (y0, y1))) <| orc 22 f22_D f22_O (fun x ret => c22 x.1 x.2 (fun y0 => ret y0)) <| orc 28 f28_D f28_O (fun x ret => c28 x.1 x.2 (fun y0 y1 y2 => ret (y0, y1, y2))) <| orc 29 f29_D f29_O (fun x ret => c29 x (fun y0 y1 => ret (y0, y1))) <| orc 30 f30_D f30_O (fun x ret => c30 x (fun y0 y1 y2 => ret (y0, y1, y2))) <| orc0
noncomputable def f24_E (k : Nat) (c9 : PV → (PV → R) → R) (c11 : Int → Int → (PV → R) → R) (c16 : (List Int) → PV → (Bool → PV → R) → R) (c22 : (List Int) → (List Int) → (Bool → R) → R) (c28 : (List Int) → (List Int) → ((List Int) → (List Int) → Bool → R) → R) (c29 : (List Int) → (PV → Bool → R) → R) (c30 : PV → (Int → Int → PV → R) → R) : Env := { P := Try.prog, nilOwn := fun d => false, fldOwn := fun d i => false, ownPar := ownPars, ownRet := false, mask := f24_msk, fuel := k, C := f24_C c9 c11 c16 c22 c28 c29 c30 }
noncomputable def f24_code : Code := Try.f24.body.getD .skip
noncomputable def f24_e (c9 : PV → (PV → R) → R) (c11 : Int → Int → (PV → R) → R) (c16 : (List Int) → PV → (Bool → PV → R) → R) (c22 : (List Int) → (List Int) → (Bool → R) → R) (c28 : (List Int) → (List Int) → ((List Int) → (List Int) → Bool → R) → R) (c29 : (List Int) → (PV → Bool → R) → R) (c30 : PV → (Int → Int → PV → R) → R) (ret0 : PV → Int → PV → R) (b1 : Bool) (p2 : PV) : R :=
  c16 [91, 58] p2 fun b3 p4 =>
  bif b3 then
    bif (decide ((0 : Int) ≤ (PV.num (PV.fld p4 1))) && decide ((PV.num (PV.fld p4 1)) ≤ (List.length (PV.chars (PV.fld p4 0)) : Int)) && decide ((List.length (PV.chars (PV.fld p4 0)) : Int) ≤ (List.length (PV.chars (PV.fld p4 0)) : Int))) then
      let s5 : List Int := (List.drop ((PV.num (PV.fld p4 1))).toNat (List.take ((List.length (PV.chars (PV.fld p4 0)) : Int)).toNat (PV.chars (PV.fld p4 0))))
      c28 s5 [58, 93] fun s6 s7 b8 =>
      c29 s6 fun p9 b10 =>
      bif ((!b8) == false) then
        bif (!b10) then
          ret0 (PV.agg [(PV.int 0), (PV.int 0), (PV.int 0), (PV.int 0)]) 2 p4
        else let n11 : Int := (IntKind.wrap .i64 ((PV.num (PV.fld p4 1)) + (IntKind.wrap .i64 ((List.length s6 : Int) + (2 : Int)))))
        ret0 p9 0 (PV.agg (List.set (PV.flds p4) 1 (PV.int n11)))
      else ret0 (PV.agg [(PV.int 0), (PV.int 0), (PV.int 0), (PV.int 0)]) 2 p4
    else none
  else c30 p4 fun n12 n13 p14 =>
  bif (decide ((0 : Int) ≤ (PV.num (PV.fld p14 1))) && decide ((PV.num (PV.fld p14 1)) ≤ (List.length (PV.chars (PV.fld p14 0)) : Int)) && decide ((List.length (PV.chars (PV.fld p14 0)) : Int) ≤ (List.length (PV.chars (PV.fld p14 0)) : Int))) then
    let s15 : List Int := (List.drop ((PV.num (PV.fld p14 1))).toNat (List.take ((List.length (PV.chars (PV.fld p14 0)) : Int)).toNat (PV.chars (PV.fld p14 0))))
    bif (!(decide (n13 = (0 : Int)))) then
      ret0 (PV.agg [(PV.int 0), (PV.int 0), (PV.int 0), (PV.int 0)]) n13 p14
    else bif ((decide (n12 = (45 : Int))) == true) then
      bif ((!b1) == true) then
        c22 s15 [93] fun b16 =>
        bif (!b16) then
          ret0 (PV.agg [(PV.int 0), (PV.int 0), (PV.int 0), (PV.int 0)]) 2 p14
        else c22 s15 [45] fun b17 =>
        bif ((!b17) == false) then
          c22 s15 [45, 93] fun b18 =>
          bif b18 then
            c9 (PV.list [(PV.int n12)]) fun p19 =>
            ret0 p19 0 p14
          else let p20 : PV := (PV.agg (List.set (PV.flds p14) 1 (PV.int (IntKind.wrap .i64 ((PV.num (PV.fld p14 1)) + (1 : Int))))))
          c30 p20 fun n21 n22 p23 =>
          bif ((decide (n22 = (0 : Int))) == true) then
            bif (decide (n21 < n12)) then
              ret0 (PV.agg [(PV.int 0), (PV.int 0), (PV.int 0), (PV.int 0)]) 2 p23
            else bif (!(decide (n22 = (0 : Int)))) then
              ret0 (PV.agg [(PV.int 0), (PV.int 0), (PV.int 0), (PV.int 0)]) n22 p23
            else c11 n12 n21 fun p24 =>
            ret0 p24 0 p23
          else bif (!(decide (n22 = (0 : Int)))) then
            ret0 (PV.agg [(PV.int 0), (PV.int 0), (PV.int 0), (PV.int 0)]) n22 p23
          else c11 n12 n21 fun p25 =>
          ret0 p25 0 p23
        else c9 (PV.list [(PV.int n12)]) fun p26 =>
        ret0 p26 0 p14
      else c22 s15 [45] fun b27 =>
      bif ((!b27) == false) then
        c22 s15 [45, 93] fun b28 =>
        bif b28 then
          c9 (PV.list [(PV.int n12)]) fun p29 =>
          ret0 p29 0 p14
        else let p30 : PV := (PV.agg (List.set (PV.flds p14) 1 (PV.int (IntKind.wrap .i64 ((PV.num (PV.fld p14 1)) + (1 : Int))))))
        c30 p30 fun n31 n32 p33 =>
        bif ((decide (n32 = (0 : Int))) == true) then
          bif (decide (n31 < n12)) then
            ret0 (PV.agg [(PV.int 0), (PV.int 0), (PV.int 0), (PV.int 0)]) 2 p33
          else bif (!(decide (n32 = (0 : Int)))) then
            ret0 (PV.agg [(PV.int 0), (PV.int 0), (PV.int 0), (PV.int 0)]) n32 p33
          else c11 n12 n31 fun p34 =>
          ret0 p34 0 p33
        else bif (!(decide (n32 = (0 : Int)))) then
          ret0 (PV.agg [(PV.int 0), (PV.int 0), (PV.int 0), (PV.int 0)]) n32 p33
        else c11 n12 n31 fun p35 =>
        ret0 p35 0 p33
      else c9 (PV.list [(PV.int n12)]) fun p36 =>
      ret0 p36 0 p14
    else c22 s15 [45] fun b37 =>
    bif ((!b37) == false) then
      c22 s15 [45, 93] fun b38 =>
      bif b38 then
        c9 (PV.list [(PV.int n12)]) fun p39 =>
        ret0 p39 0 p14
      else let p40 : PV := (PV.agg (List.set (PV.flds p14) 1 (PV.int (IntKind.wrap .i64 ((PV.num (PV.fld p14 1)) + (1 : Int))))))
      c30 p40 fun n41 n42 p43 =>
      bif ((decide (n42 = (0 : Int))) == true) then
        bif (decide (n41 < n12)) then
          ret0 (PV.agg [(PV.int 0), (PV.int 0), (PV.int 0), (PV.int 0)]) 2 p43
        else bif (!(decide (n42 = (0 : Int)))) then
          ret0 (PV.agg [(PV.int 0), (PV.int 0), (PV.int 0), (PV.int 0)]) n42 p43
        else c11 n12 n41 fun p44 =>
        ret0 p44 0 p43
      else bif (!(decide (n42 = (0 : Int)))) then
        ret0 (PV.agg [(PV.int 0), (PV.int 0), (PV.int 0), (PV.int 0)]) n42 p43
      else c11 n12 n41 fun p45 =>
      ret0 p45 0 p43
    else c9 (PV.list [(PV.int n12)]) fun p46 =>
    ret0 p46 0 p14
  else none

theorem f24_e_mem (k : Nat) (c9 : PV → (PV → R) → R) (c11 : Int → Int → (PV → R) → R) (c16 : (List Int) → PV → (Bool → PV → R) → R) (c22 : (List Int) → (List Int) → (Bool → R) → R) (c28 : (List Int) → (List Int) → ((List Int) → (List Int) → Bool → R) → R) (c29 : (List Int) → (PV → Bool → R) → R) (c30 : PV → (Int → Int → PV → R) → R) (retF : PV × Int × PV → R) (b1 : Bool) (p2 : PV) : exec (f24_E k c9 c11 c16 c22 c28 c29 c30) f24_code (endK (f24_E k c9 c11 c16 c22 c28 c29 c30) Try.f24 [2000000] f24_un retF) ⟨[.ptr 2000000 [], .bool b1, .undef, .undef, .undef, .undef, .undef, .undef, .undef, .undef, .undef, .undef, .undef, .undef, .undef, .undef, .undef, .undef, .undef, .undef, .undef, .undef, .undef, .undef, .undef, .undef, .undef, .undef, .undef, .undef, .undef, .undef, .undef, .undef, .undef, .undef, .undef, .undef, .undef, .undef, .undef, .undef, .undef, .undef, .undef, .undef, .undef, .undef, .undef, .undef, .undef, .undef, .undef, .undef, .undef, .undef, .undef, .undef, .undef, .undef, .undef, .undef, .undef, .undef, .undef, .undef, .undef, .undef, .undef, .undef, .undef, .undef, .undef, .undef, .undef, .undef, .undef, .undef, .undef, .undef, .undef, .undef, .undef, .undef, .undef, .undef, .undef, .undef, .undef, .undef, .undef, .undef, .undef, .undef, .undef, .undef, .undef, .undef, .undef, .undef, .undef, .undef, .undef, .undef, .undef, .undef, .undef, .undef, .undef, .undef, .undef, .undef, .undef, .undef, .undef, .undef, .undef, .undef, .undef, .undef, .undef, .undef, .undef], [(2000000, .box 48 (.val 48 p2))]⟩ = f24_e c9 c11 c16 c22 c28 c29 c30 (fun y0 y1 y2 => retF (y0, y1, y2)) b1 p2 := by kernel_rfl

noncomputable def f24_N (k : Nat) (c9 : PV → (PV → R) → R) (c11 : Int → Int → (PV → R) → R) (c16 : (List Int) → PV → (Bool → PV → R) → R) (c22 : (List Int) → (List Int) → (Bool → R) → R) (c28 : (List Int) → (List Int) → ((List Int) → (List Int) → Bool → R) → R) (c29 : (List Int) → (PV → Bool → R) → R) (c30 : PV → (Int → Int → PV → R) → R) (ret0 : PV → Int → PV → R) (b1 : Bool) (p2 : PV) : R :=
  f24_e c9 c11 c16 c22 c28 c29 c30 ret0 b1 p2
theorem f24_eq (k : Nat) (c9 : PV → (PV → R) → R) (c11 : Int → Int → (PV → R) → R) (c16 : (List Int) → PV → (Bool → PV → R) → R) (c22 : (List Int) → (List Int) → (Bool → R) → R) (c28 : (List Int) → (List Int) → ((List Int) → (List Int) → Bool → R) → R) (c29 : (List Int) → (PV → Bool → R) → R) (c30 : PV → (Int → Int → PV → R) → R) (retF : PV × Int × PV → R) (b1 : Bool) (p2 : PV) : exec (f24_E k c9 c11 c16 c22 c28 c29 c30) f24_code (endK (f24_E k c9 c11 c16 c22 c28 c29 c30) Try.f24 [2000000] f24_un retF) ⟨[.ptr 2000000 [], .bool b1, .undef, .undef, .undef, .undef, .undef, .undef, .undef, .undef, .undef, .undef, .undef, .undef, .undef, .undef, .undef, .undef, .undef, .undef, .undef, .undef, .undef, .undef, .undef, .undef, .undef, .undef, .undef, .undef, .undef, .undef, .undef, .undef, .undef, .undef, .undef, .undef, .undef, .undef, .undef, .undef, .undef, .undef, .undef, .undef, .undef, .undef, .undef, .undef, .undef, .undef, .undef, .undef, .undef, .undef, .undef, .undef, .undef, .undef, .undef, .undef, .undef, .undef, .undef, .undef, .undef, .undef, .undef, .undef, .undef, .undef, .undef, .undef, .undef, .undef, .undef, .undef, .undef, .undef, .undef, .undef, .undef, .undef, .undef, .undef, .undef, .undef, .undef, .undef, .undef, .undef, .undef, .undef, .undef, .undef, .undef, .undef, .undef, .undef, .undef, .undef, .undef, .undef, .undef, .undef, .undef, .undef, .undef, .undef, .undef, .undef, .undef, .undef, .undef, .undef, .undef, .undef, .undef, .undef, .undef, .undef, .undef], [(2000000, .box 48 (.val 48 p2))]⟩ = f24_N k c9 c11 c16 c22 c28 c29 c30 (fun y0 y1 y2 => retF (y0, y1, y2)) b1 p2 :=
  (f24_e_mem k c9 c11 c16 c22 c28 c29 c30 retF b1 p2)

noncomputable def G24 : Nat → Bool → PV → (PV → Int → PV → R) → R
  | 0, _, _, _ => none
  | k + 1, b1, p2, ret0 => f24_N k (G9 k) (G11 k) (G16 k) (G22 k) (G28 k) (G29 k) (G30 k) ret0 b1 p2
theorem S24 : ∀ k, Snd Try.prog 24 f24_I f24_O (fun x ret => G24 k x.1 x.2 (fun y0 y1 y2 => ret (y0, y1, y2)))
  | 0 => snd_none
  | k + 1 => snd_step (E := f24_E k (G9 k) (G11 k) (G16 k) (G22 k) (G28 k) (G29 k) (G30 k)) rfl laidOut noNums (orc_ok (S9 k).o f9_D_ok (orc_ok (S11 k).o f11_D_ok (orc_ok (S16 k).o f16_D_ok (orc_ok (S22 k).o f22_D_ok (orc_ok (S28 k).o f28_D_ok (orc_ok (S29 k).o f29_D_ok (orc_ok (S30 k).o f30_D_ok orc0_ok))))))) (f := 24) (fn := Try.f24) (code := f24_code) Try.func24 (by kernel_rfl) (drawsOk_of laidOut (orc_ok (S9 k).o f9_D_ok (orc_ok (S11 k).o f11_D_ok (orc_ok (S16 k).o f16_D_ok (orc_ok (S22 k).o f22_D_ok (orc_ok (S28 k).o f28_D_ok (orc_ok (S29 k).o f29_D_ok (orc_ok (S30 k).o f30_D_ok orc0_ok))))))) mixed (by kernel_rfl)) f24_un f24_un_ok [2000000] (fun _ => rfl)
      (fun x ret => f24_eq k (G9 k) (G11 k) (G16 k) (G22 k) (G28 k) (G29 k) (G30 k) ret x.1 x.2)

/- math/bits.OnesCount64 -/
noncomputable def f31_I : Int → List SV × Obs := fun x => ([.int .u64 x], [])
noncomputable def f31_D : List SV → Obs → Option (Int)
  | [.int .u64 n1], [] => some n1
  | _, _ => none
theorem f31_D_ok (args : List SV) (B : Obs) (x : Int) (h : f31_D args B = some x) : f31_I x = (args, B) := by
  unfold f31_D at h
  split at h
  · injection h with h; subst h; rfl
  · cases h
noncomputable def f31_O : Int → Out := (fun y => ([.int .i64 y], []))
noncomputable def f31_un : Out → Option (Int)
  | ([.int .i64 y0], []) => some y0
  | _ => none
theorem f31_un_ok (o : Out) (y : Int) (h : f31_un o = some y) : o = f31_O y := by
  unfold f31_un at h
  split at h
  · injection h with h; subst h; rfl
  · cases h
noncomputable def f31_msk : Nat → Option (List Nat) := fun key =>  none
noncomputable def f31_C : Oracle := orc0
noncomputable def f31_E (k : Nat) : Env := { P := Try.prog, nilOwn := fun d => false, fldOwn := fun d i => false, ownPar := ownPars, ownRet := false, mask := f31_msk, fuel := k, C := f31_C }
noncomputable def f31_code : Code := Try.f31.body.getD .skip
noncomputable def f31_e (ret0 : Int → R) (n1 : Int) : R :=
  let n2 : Int := (IntKind.wrap .u64 ((intBit .and .u64 (Int.fdiv n1 (2 ^ (min ((1 : Int)).toNat 64))) 6148914691236517205) + (intBit .and .u64 n1 6148914691236517205)))
  let n3 : Int := (IntKind.wrap .u64 ((intBit .and .u64 (Int.fdiv n2 (2 ^ (min ((2 : Int)).toNat 64))) 3689348814741910323) + (intBit .and .u64 n2 3689348814741910323)))
  let n4 : Int := (intBit .and .u64 (IntKind.wrap .u64 ((Int.fdiv n3 (2 ^ (min ((4 : Int)).toNat 64))) + n3)) 1085102592571150095)
  let n5 : Int := (Int.fdiv (IntKind.wrap .u64 (n4 + (Int.fdiv n4 (2 ^ (min ((8 : Int)).toNat 64))))) (2 ^ (min ((16 : Int)).toNat 64)))
  let n6 : Int := (Int.fdiv (IntKind.wrap .u64 ((IntKind.wrap .u64 (n4 + (Int.fdiv n4 (2 ^ (min ((8 : Int)).toNat 64))))) + n5)) (2 ^ (min ((32 : Int)).toNat 64)))
  let n7 : Int := (IntKind.wrap .u64 ((IntKind.wrap .u64 ((IntKind.wrap .u64 (n4 + (Int.fdiv n4 (2 ^ (min ((8 : Int)).toNat 64))))) + n5)) + n6))
  ret0 (intBit .and .i64 (IntKind.wrap .i64 n7) 127)

theorem f31_e_mem (k : Nat) (retF : Int → R) (n1 : Int) : exec (f31_E k) f31_code (endK (f31_E k) Try.f31 [] f31_un retF) ⟨[.int .u64 n1, .undef, .undef, .undef, .undef, .undef, .undef, .undef, .undef, .undef, .undef, .undef, .undef, .undef, .undef, .undef, .undef, .undef, .undef, .undef, .undef, .undef, .undef, .undef, .undef, .undef, .undef, .undef, .undef, .undef, .undef, .undef, .undef, .undef, .undef], []⟩ = f31_e (fun y0 => retF y0) n1 := by kernel_rfl

noncomputable def f31_N (k : Nat) (ret0 : Int → R) (n1 : Int) : R :=
  f31_e ret0 n1
theorem f31_eq (k : Nat) (retF : Int → R) (n1 : Int) : exec (f31_E k) f31_code (endK (f31_E k) Try.f31 [] f31_un retF) ⟨[.int .u64 n1, .undef, .undef, .undef, .undef, .undef, .undef, .undef, .undef, .undef, .undef, .undef, .undef, .undef, .undef, .undef, .undef, .undef, .undef, .undef, .undef, .undef, .undef, .undef, .undef, .undef, .undef, .undef, .undef, .undef, .undef, .undef, .undef, .undef, .undef], []⟩ = f31_N k (fun y0 => retF y0) n1 :=
  (f31_e_mem k retF n1)

noncomputable def G31 : Nat → Int → (Int → R) → R
  | 0, _, _ => none
  | k + 1, n1, ret0 => f31_N k  ret0 n1
theorem S31 : ∀ k, Snd Try.prog 31 f31_I f31_O (fun x ret => G31 k x (fun y0 => ret y0))
  | 0 => snd_none
  | k + 1 => snd_step (E := f31_E k ) rfl laidOut noNums orc0_ok (f := 31) (fn := Try.f31) (code := f31_code) Try.func31 (by kernel_rfl) (drawsOk_of laidOut orc0_ok mixed (by kernel_rfl)) f31_un f31_un_ok [] (fun _ => rfl)
      (fun x ret => f31_eq k  ret x)

/- (catchpole/byteset.Set).Len -/
noncomputable def f25_I : PV → List SV × Obs := fun x => ([.val 32 x], [])
noncomputable def f25_D : List SV → Obs → Option (PV)
  | [.val 32 p1], [] => some p1
  | _, _ => none
theorem f25_D_ok (args : List SV) (B : Obs) (x : PV) (h : f25_D args B = some x) : f25_I x = (args, B) := by
  unfold f25_D at h
  split at h
  · injection h with h; subst h; rfl
  · cases h
noncomputable def f25_O : Int → Out := (fun y => ([.int .i64 y], []))
noncomputable def f25_un : Out → Option (Int)
  | ([.int .i64 y0], []) => some y0
  | _ => none
theorem f25_un_ok (o : Out) (y : Int) (h : f25_un o = some y) : o = f25_O y := by
  unfold f25_un at h
  split at h
  · injection h with h; subst h; rfl
  · cases h
noncomputable def f25_msk : Nat → Option (List Nat) := fun key => bif key == 9 then some [3, 6, 7] else none
noncomputable def f25_C (c31 : Int → (Int → R) → R) : Oracle := orc 31 f31_D f31_O (fun x ret => c31 x (fun y0 => ret y0)) <| orc0
noncomputable def f25_E (k : Nat) (c31 : Int → (Int → R) → R) : Env := { P := Try.prog, nilOwn := fun d => false, fldOwn := fun d i => false, ownPar := ownPars, ownRet := false, mask := f25_msk, fuel := k, C := f25_C c31 }
noncomputable def f25_code : Code := Try.f25.body.getD .skip
noncomputable def f25_cw1 : Code := subC f25_code [1, 1, 0, 1, 0, 0]
noncomputable def f25_hw1_0 (p1 : PV) (n3 : Int) (n4 : Int) : St := ⟨[.dead, .dead, .dead, .int .i64 n3, .dead, .dead, .val 32 p1, .int .i64 n4, .dead, .dead, .dead, .dead, .dead, .dead, .dead, .dead], []⟩
noncomputable def f25_w1A (k : Nat) (c31 : Int → (Int → R) → R) (retF : Int → R) (p1 : PV) (n3 : Int) (n4 : Int) : R := loopM (f25_E k c31) f25_cw1 (kont (f25_E k c31) f25_code [1, 1, 0, 1, 0] (endK (f25_E k c31) Try.f25 [] f25_un retF)) k (f25_hw1_0 p1 n3 n4)
noncomputable def f25_w1b0 (c31 : Int → (Int → R) → R) (ret0 : Int → R) (next_w1_0 : Int → Int → R) (p1 : PV) (n3 : Int) (n4 : Int) : R :=
  bif (decide (n4 < (4 : Int))) then
    bif (true && decide ((0 : Int) ≤ n4) && decide (n4 < 4)) then
      c31 (PV.num (PV.fld p1 (n4).toNat)) fun n5 =>
      next_w1_0 (IntKind.wrap .i64 (n3 + n5)) (IntKind.wrap .i64 (n4 + (1 : Int)))
    else none
  else ret0 n3

theorem f25_w1b0_mem (k : Nat) (c31 : Int → (Int → R) → R) (retF : Int → R) (NX_w1 : St → R) (p1 : PV) (n3 : Int) (n4 : Int) : exec (f25_E k c31) f25_cw1 (purgeK (f25_E k c31) f25_cw1 (loopK NX_w1 (kont (f25_E k c31) f25_code [1, 1, 0, 1, 0] (endK (f25_E k c31) Try.f25 [] f25_un retF)))) (f25_hw1_0 p1 n3 n4) = f25_w1b0 c31 (fun y0 => retF y0) (fun n3 n4 => NX_w1 (f25_hw1_0 p1 n3 n4)) p1 n3 n4 := by kernel_rfl

noncomputable def f25_w1b0N (k : Nat) (c31 : Int → (Int → R) → R) (ret0 : Int → R) (next_w1_0 : Int → Int → R) (p1 : PV) (n3 : Int) (n4 : Int) : R :=
  f25_w1b0 c31 ret0 next_w1_0 p1 n3 n4
theorem f25_w1b0_eq (k : Nat) (c31 : Int → (Int → R) → R) (retF : Int → R) (NX_w1 : St → R) (p1 : PV) (n3 : Int) (n4 : Int) : exec (f25_E k c31) f25_cw1 (purgeK (f25_E k c31) f25_cw1 (loopK NX_w1 (kont (f25_E k c31) f25_code [1, 1, 0, 1, 0] (endK (f25_E k c31) Try.f25 [] f25_un retF)))) (f25_hw1_0 p1 n3 n4) = f25_w1b0N k c31 (fun y0 => retF y0) (fun n3 n4 => NX_w1 (f25_hw1_0 p1 n3 n4)) p1 n3 n4 :=
  (f25_w1b0_mem k c31 retF NX_w1 p1 n3 n4)

noncomputable def f25_w1B (k : Nat) (c31 : Int → (Int → R) → R) (ret0 : Int → R) (p1 : PV) (nx : Int × Int → R) : Int × Int → R := (fun s => f25_w1b0N k c31 ret0 (fun n3 n4 => nx (n3, n4)) p1 s.1 s.2)
noncomputable def f25_w1N (k : Nat) (c31 : Int → (Int → R) → R) (ret0 : Int → R) (p1 : PV) (n3 : Int) (n4 : Int) : R := loopR (f25_w1B k c31 ret0 p1) k (n3, n4)
theorem f25_w1_eq (k : Nat) (c31 : Int → (Int → R) → R) (retF : Int → R) (p1 : PV) (n3 : Int) (n4 : Int) : f25_w1A k c31 retF p1 n3 n4 = f25_w1N k c31 (fun y0 => retF y0) p1 n3 n4 :=
  Eq.mp (by kernel_rfl) (loop_sim (E := (f25_E k c31)) (c := f25_cw1) (K := (kont (f25_E k c31) f25_code [1, 1, 0, 1, 0] (endK (f25_E k c31) Try.f25 [] f25_un retF))) (S := Int × Int) (fun s => f25_hw1_0 p1 s.1 s.2) (f25_w1B k c31 (fun y0 => retF y0) p1) (fun NX s => by
    exact Eq.mp (by kernel_rfl) (f25_w1b0_eq k c31 retF NX p1 s.1 s.2)) k (n3, n4))

noncomputable def f25_e (c31 : Int → (Int → R) → R) (ret0 : Int → R) (w1 : Int → Int → R) (p1 : PV) : R :=
  w1 0 0

theorem f25_e_mem (k : Nat) (c31 : Int → (Int → R) → R) (retF : Int → R) (p1 : PV) : exec (f25_E k c31) f25_code (endK (f25_E k c31) Try.f25 [] f25_un retF) ⟨[.val 32 p1, .undef, .undef, .undef, .undef, .undef, .undef, .undef, .undef, .undef, .undef, .undef, .undef, .undef, .undef, .undef], []⟩ = f25_e c31 (fun y0 => retF y0) (fun n3 n4 => f25_w1A k c31 retF p1 n3 n4) p1 := by kernel_rfl

noncomputable def f25_N (k : Nat) (c31 : Int → (Int → R) → R) (ret0 : Int → R) (p1 : PV) : R :=
  f25_e c31 ret0 (fun n3 n4 => f25_w1N k c31 ret0 p1 n3 n4) p1
theorem f25_eq (k : Nat) (c31 : Int → (Int → R) → R) (retF : Int → R) (p1 : PV) : exec (f25_E k c31) f25_code (endK (f25_E k c31) Try.f25 [] f25_un retF) ⟨[.val 32 p1, .undef, .undef, .undef, .undef, .undef, .undef, .undef, .undef, .undef, .undef, .undef, .undef, .undef, .undef, .undef], []⟩ = f25_N k c31 (fun y0 => retF y0) p1 :=
  (f25_e_mem k c31 retF p1).trans (by rw [show (fun n3 n4 => f25_w1A k c31 retF p1 n3 n4) = (fun n3 n4 => f25_w1N k c31 (fun y0 => retF y0) p1 n3 n4) from funext fun n3 => funext fun n4 => f25_w1_eq k c31 retF p1 n3 n4]; rfl)

noncomputable def G25 : Nat → PV → (Int → R) → R
  | 0, _, _ => none
  | k + 1, p1, ret0 => f25_N k (G31 k) ret0 p1
theorem S25 : ∀ k, Snd Try.prog 25 f25_I f25_O (fun x ret => G25 k x (fun y0 => ret y0))
  | 0 => snd_none
  | k + 1 => snd_step (E := f25_E k (G31 k)) rfl laidOut noNums (orc_ok (S31 k).o f31_D_ok orc0_ok) (f := 25) (fn := Try.f25) (code := f25_code) Try.func25 (by kernel_rfl) (drawsOk_of laidOut (orc_ok (S31 k).o f31_D_ok orc0_ok) mixed (by kernel_rfl)) f25_un f25_un_ok [] (fun _ => rfl)
      (fun x ret => f25_eq k (G31 k) ret x)

/- (*catchpole/token.cutter).bracket -/
noncomputable def f19_I : PV → List SV × Obs := fun x => ([.ptr 2000000 []], [(2000000, .box 48 (.val 48 x))])
noncomputable def f19_D : List SV → Obs → Option (PV)
  | [.ptr 2000000 []], [(2000000, .box 48 (.val 48 p1))] => some p1
  | _, _ => none
theorem f19_D_ok (args : List SV) (B : Obs) (x : PV) (h : f19_D args B = some x) : f19_I x = (args, B) := by
  unfold f19_D at h
  split at h
  · injection h with h; subst h; rfl
  · cases h
noncomputable def f19_O : PV × Int × PV → Out := (fun y => ([.val 32 y.1, .int .i64 y.2.1], [(2000000, .box 48 (.val 48 y.2.2))]))
noncomputable def f19_un : Out → Option (PV × Int × PV)
  | ([.val 32 y0, .int .i64 y1], [(2000000, .box 48 (.val 48 y2))]) => some (y0, y1, y2)
  | _ => none
theorem f19_un_ok (o : Out) (y : PV × Int × PV) (h : f19_un o = some y) : o = f19_O y := by
  unfold f19_un at h
  split at h
  · injection h with h; subst h; rfl
  · cases h
noncomputable def f19_msk : Nat → Option (List Nat) := fun key => bif key == 12 then some [0, 2, 4, 5, 6] else none
noncomputable def f19_C (c10 : PV → (PV → R) → R) (c12 : PV → PV → (PV → R) → R) (c16 : (List Int) → PV → (Bool → PV → R) → R) (c24 : Bool → PV → (PV → Int → PV → R) → R) (c25 : PV → (Int → R) → R) : Oracle := orc 10 f10_D f10_O (fun x ret => c10 x (fun y0 => ret y0)) <| orc 12 f12_D f12_O (fun x ret => c12 x.1 x.2 (fun y0 => ret y0)) <| orc 16 f16_D f16_O (fun x ret => c16 x.1 x.2 (fun y0 y1 => ret (y0, y1))) <| orc 24 f24_D f24_O (fun x ret => c24 x.1 x.2 (fun y0 y1 y2 => ret (y0, y1, y2))) <| orc 25 f25_D f25_O (fun x ret => c25 x (fun y0 => ret y0)) <| orc0
noncomputable def f19_E (k : Nat) (c10 : PV → (PV → R) → R) (c12 : PV → PV → (PV → R) → R) (c16 : (List Int) → PV → (Bool → PV → R) → R) (c24 : Bool → PV → (PV → Int → PV → R) → R) (c25 : PV → (Int → R) → R) : Env := { P := Try.prog, nilOwn := fun d => false, fldOwn := fun d i => false, ownPar := ownPars, ownRet := false, mask := f19_msk, fuel := k, C := f19_C c10 c12 c16 c24 c25 }
noncomputable def f19_code : Code := Try.f19.body.getD .skip
noncomputable def f19_cw1 : Code := subC f19_code [1, 1, 1, 0, 1, 0, 0]
noncomputable def f19_hw1_0 (b2 : Bool) (b8 : Bool) (p9 : PV) (p10 : PV) : St := ⟨[.ptr 2000000 [], .dead, .ptr 2 [], .dead, .bool b2, .ptr 5 [], .bool b8, .dead, .dead, .dead, .dead, .dead, .dead, .dead, .dead, .dead, .dead, .dead, .dead, .dead, .dead, .dead, .dead, .dead, .dead, .dead, .dead, .dead, .dead, .dead, .dead, .dead, .dead, .dead, .dead, .dead, .dead, .dead], [(2, .box 32 (.val 32 (PV.agg [(PV.int 0), (PV.int 0), (PV.int 0), (PV.int 0)]))), (5, .box 32 (.val 32 p9)), (2000000, .box 48 (.val 48 p10))]⟩
noncomputable def f19_w1A (k : Nat) (c10 : PV → (PV → R) → R) (c12 : PV → PV → (PV → R) → R) (c16 : (List Int) → PV → (Bool → PV → R) → R) (c24 : Bool → PV → (PV → Int → PV → R) → R) (c25 : PV → (Int → R) → R) (retF : PV × Int × PV → R) (b2 : Bool) (b8 : Bool) (p9 : PV) (p10 : PV) : R := loopM (f19_E k c10 c12 c16 c24 c25) f19_cw1 (kont (f19_E k c10 c12 c16 c24 c25) f19_code [1, 1, 1, 0, 1, 0] (endK (f19_E k c10 c12 c16 c24 c25) Try.f19 [2000000] f19_un retF)) k (f19_hw1_0 b2 b8 p9 p10)
noncomputable def f19_w1b0 (c10 : PV → (PV → R) → R) (c12 : PV → PV → (PV → R) → R) (c16 : (List Int) → PV → (Bool → PV → R) → R) (c24 : Bool → PV → (PV → Int → PV → R) → R) (c25 : PV → (Int → R) → R) (ret0 : PV → Int → PV → R) (next_w1_0 : Bool → PV → PV → R) (b2 : Bool) (b8 : Bool) (p9 : PV) (p10 : PV) : R :=
  bif (b8 == false) then
    c16 [93] p10 fun b11 p12 =>
    bif (!b11) then
      c24 b8 p12 fun p13 n14 p15 =>
      bif (!(decide (n14 = (0 : Int)))) then
        ret0 (PV.agg [(PV.int 0), (PV.int 0), (PV.int 0), (PV.int 0)]) n14 p15
      else c12 p9 p13 fun p16 =>
      next_w1_0 false p16 p15
    else bif b2 then
      c10 p9 fun p17 =>
      c25 p17 fun n18 =>
      bif (decide (n18 = (0 : Int))) then
        ret0 (PV.agg [(PV.int 0), (PV.int 0), (PV.int 0), (PV.int 0)]) 2 p12
      else ret0 p17 0 p12
    else c25 p9 fun n19 =>
    bif (decide (n19 = (0 : Int))) then
      ret0 (PV.agg [(PV.int 0), (PV.int 0), (PV.int 0), (PV.int 0)]) 2 p12
    else ret0 p9 0 p12
  else c24 b8 p10 fun p20 n21 p22 =>
  bif (!(decide (n21 = (0 : Int)))) then
    ret0 (PV.agg [(PV.int 0), (PV.int 0), (PV.int 0), (PV.int 0)]) n21 p22
  else c12 p9 p20 fun p23 =>
  next_w1_0 false p23 p22

theorem f19_w1b0_mem (k : Nat) (c10 : PV → (PV → R) → R) (c12 : PV → PV → (PV → R) → R) (c16 : (List Int) → PV → (Bool → PV → R) → R) (c24 : Bool → PV → (PV → Int → PV → R) → R) (c25 : PV → (Int → R) → R) (retF : PV × Int × PV → R) (NX_w1 : St → R) (b2 : Bool) (b8 : Bool) (p9 : PV) (p10 : PV) : exec (f19_E k c10 c12 c16 c24 c25) f19_cw1 (purgeK (f19_E k c10 c12 c16 c24 c25) f19_cw1 (loopK NX_w1 (kont (f19_E k c10 c12 c16 c24 c25) f19_code [1, 1, 1, 0, 1, 0] (endK (f19_E k c10 c12 c16 c24 c25) Try.f19 [2000000] f19_un retF)))) (f19_hw1_0 b2 b8 p9 p10) = f19_w1b0 c10 c12 c16 c24 c25 (fun y0 y1 y2 => retF (y0, y1, y2)) (fun b8 p9 p10 => NX_w1 (f19_hw1_0 b2 b8 p9 p10)) b2 b8 p9 p10 := by kernel_rfl

noncomputable def f19_w1b0N (k : Nat) (c10 : PV → (PV → R) → R) (c12 : PV → PV → (PV → R) → R) (c16 : (List Int) → PV → (Bool → PV → R) → R) (c24 : Bool → PV → (PV → Int → PV → R) → R) (c25 : PV → (Int → R) → R) (ret0 : PV → Int → PV → R) (next_w1_0 : Bool → PV → PV → R) (b2 : Bool) (b8 : Bool) (p9 : PV) (p10 : PV) : R :=
  f19_w1b0 c10 c12 c16 c24 c25 ret0 next_w1_0 b2 b8 p9 p10
theorem f19_w1b0_eq (k : Nat) (c10 : PV → (PV → R) → R) (c12 : PV → PV → (PV → R) → R) (c16 : (List Int) → PV → (Bool → PV → R) → R) (c24 : Bool → PV → (PV → Int → PV → R) → R) (c25 : PV → (Int → R) → R) (retF : PV × Int × PV → R) (NX_w1 : St → R) (b2 : Bool) (b8 : Bool) (p9 : PV) (p10 : PV) : exec (f19_E k c10 c12 c16 c24 c25) f19_cw1 (purgeK (f19_E k c10 c12 c16 c24 c25) f19_cw1 (loopK NX_w1 (kont (f19_E k c10 c12 c16 c24 c25) f19_code [1, 1, 1, 0, 1, 0] (endK (f19_E k c10 c12 c16 c24 c25) Try.f19 [2000000] f19_un retF)))) (f19_hw1_0 b2 b8 p9 p10) = f19_w1b0N k c10 c12 c16 c24 c25 (fun y0 y1 y2 => retF (y0, y1, y2)) (fun b8 p9 p10 => NX_w1 (f19_hw1_0 b2 b8 p9 p10)) b2 b8 p9 p10 :=
  (f19_w1b0_mem k c10 c12 c16 c24 c25 retF NX_w1 b2 b8 p9 p10)

noncomputable def f19_w1B (k : Nat) (c10 : PV → (PV → R) → R) (c12 : PV → PV → (PV → R) → R) (c16 : (List Int) → PV → (Bool → PV → R) → R) (c24 : Bool → PV → (PV → Int → PV → R) → R) (c25 : PV → (Int → R) → R) (ret0 : PV → Int → PV → R) (b2 : Bool) (nx : Bool × PV × PV → R) : Bool × PV × PV → R := (fun s => f19_w1b0N k c10 c12 c16 c24 c25 ret0 (fun b8 p9 p10 => nx (b8, p9, p10)) b2 s.1 s.2.1 s.2.2)
noncomputable def f19_w1N (k : Nat) (c10 : PV → (PV → R) → R) (c12 : PV → PV → (PV → R) → R) (c16 : (List Int) → PV → (Bool → PV → R) → R) (c24 : Bool → PV → (PV → Int → PV → R) → R) (c25 : PV → (Int → R) → R) (ret0 : PV → Int → PV → R) (b2 : Bool) (b8 : Bool) (p9 : PV) (p10 : PV) : R := loopR (f19_w1B k c10 c12 c16 c24 c25 ret0 b2) k (b8, p9, p10)
theorem f19_w1_eq (k : Nat) (c10 : PV → (PV → R) → R) (c12 : PV → PV → (PV → R) → R) (c16 : (List Int) → PV → (Bool → PV → R) → R) (c24 : Bool → PV → (PV → Int → PV → R) → R) (c25 : PV → (Int → R) → R) (retF : PV × Int × PV → R) (b2 : Bool) (b8 : Bool) (p9 : PV) (p10 : PV) : f19_w1A k c10 c12 c16 c24 c25 retF b2 b8 p9 p10 = f19_w1N k c10 c12 c16 c24 c25 (fun y0 y1 y2 => retF (y0, y1, y2)) b2 b8 p9 p10 :=
  Eq.mp (by kernel_rfl) (loop_sim (E := (f19_E k c10 c12 c16 c24 c25)) (c := f19_cw1) (K := (kont (f19_E k c10 c12 c16 c24 c25) f19_code [1, 1, 1, 0, 1, 0] (endK (f19_E k c10 c12 c16 c24 c25) Try.f19 [2000000] f19_un retF))) (S := Bool × PV × PV) (fun s => f19_hw1_0 b2 s.1 s.2.1 s.2.2) (f19_w1B k c10 c12 c16 c24 c25 (fun y0 y1 y2 => retF (y0, y1, y2)) b2) (fun NX s => by
    exact Eq.mp (by kernel_rfl) (f19_w1b0_eq k c10 c12 c16 c24 c25 retF NX b2 s.1 s.2.1 s.2.2)) k (b8, p9, p10))

noncomputable def f19_e (c10 : PV → (PV → R) → R) (c12 : PV → PV → (PV → R) → R) (c16 : (List Int) → PV → (Bool → PV → R) → R) (c24 : Bool → PV → (PV → Int → PV → R) → R) (c25 : PV → (Int → R) → R) (ret0 : PV → Int → PV → R) (w1 : Bool → Bool → PV → PV → R) (p1 : PV) : R :=
  c16 [94] p1 fun b2 p3 =>
  w1 b2 true (PV.agg [(PV.int 0), (PV.int 0), (PV.int 0), (PV.int 0)]) p3

theorem f19_e_mem (k : Nat) (c10 : PV → (PV → R) → R) (c12 : PV → PV → (PV → R) → R) (c16 : (List Int) → PV → (Bool → PV → R) → R) (c24 : Bool → PV → (PV → Int → PV → R) → R) (c25 : PV → (Int → R) → R) (retF : PV × Int × PV → R) (p1 : PV) : exec (f19_E k c10 c12 c16 c24 c25) f19_code (endK (f19_E k c10 c12 c16 c24 c25) Try.f19 [2000000] f19_un retF) ⟨[.ptr 2000000 [], .undef, .undef, .undef, .undef, .undef, .undef, .undef, .undef, .undef, .undef, .undef, .undef, .undef, .undef, .undef, .undef, .undef, .undef, .undef, .undef, .undef, .undef, .undef, .undef, .undef, .undef, .undef, .undef, .undef, .undef, .undef, .undef, .undef, .undef, .undef, .undef, .undef], [(2000000, .box 48 (.val 48 p1))]⟩ = f19_e c10 c12 c16 c24 c25 (fun y0 y1 y2 => retF (y0, y1, y2)) (fun b2 b8 p9 p10 => f19_w1A k c10 c12 c16 c24 c25 retF b2 b8 p9 p10) p1 := by kernel_rfl

noncomputable def f19_N (k : Nat) (c10 : PV → (PV → R) → R) (c12 : PV → PV → (PV → R) → R) (c16 : (List Int) → PV → (Bool → PV → R) → R) (c24 : Bool → PV → (PV → Int → PV → R) → R) (c25 : PV → (Int → R) → R) (ret0 : PV → Int → PV → R) (p1 : PV) : R :=
  f19_e c10 c12 c16 c24 c25 ret0 (fun b2 b8 p9 p10 => f19_w1N k c10 c12 c16 c24 c25 ret0 b2 b8 p9 p10) p1
theorem f19_eq (k : Nat) (c10 : PV → (PV → R) → R) (c12 : PV → PV → (PV → R) → R) (c16 : (List Int) → PV → (Bool → PV → R) → R) (c24 : Bool → PV → (PV → Int → PV → R) → R) (c25 : PV → (Int → R) → R) (retF : PV × Int × PV → R) (p1 : PV) : exec (f19_E k c10 c12 c16 c24 c25) f19_code (endK (f19_E k c10 c12 c16 c24 c25) Try.f19 [2000000] f19_un retF) ⟨[.ptr 2000000 [], .undef, .undef, .undef, .undef, .undef, .undef, .undef, .undef, .undef, .undef, .undef, .undef, .undef, .undef, .undef, .undef, .undef, .undef, .undef, .undef, .undef, .undef, .undef, .undef, .undef, .undef, .undef, .undef, .undef, .undef, .undef, .undef, .undef, .undef, .undef, .undef, .undef], [(2000000, .box 48 (.val 48 p1))]⟩ = f19_N k c10 c12 c16 c24 c25 (fun y0 y1 y2 => retF (y0, y1, y2)) p1 :=
  (f19_e_mem k c10 c12 c16 c24 c25 retF p1).trans (by rw [show (fun b2 b8 p9 p10 => f19_w1A k c10 c12 c16 c24 c25 retF b2 b8 p9 p10) = (fun b2 b8 p9 p10 => f19_w1N k c10 c12 c16 c24 c25 (fun y0 y1 y2 => retF (y0, y1, y2)) b2 b8 p9 p10) from funext fun b2 => funext fun b8 => funext fun p9 => funext fun p10 => f19_w1_eq k c10 c12 c16 c24 c25 retF b2 b8 p9 p10]; rfl)

noncomputable def G19 : Nat → PV → (PV → Int → PV → R) → R
  | 0, _, _ => none
  | k + 1, p1, ret0 => f19_N k (G10 k) (G12 k) (G16 k) (G24 k) (G25 k) ret0 p1
theorem S19 : ∀ k, Snd Try.prog 19 f19_I f19_O (fun x ret => G19 k x (fun y0 y1 y2 => ret (y0, y1, y2)))
  | 0 => snd_none
  | k + 1 => snd_step (E := f19_E k (G10 k) (G12 k) (G16 k) (G24 k) (G25 k)) rfl laidOut noNums (orc_ok (S10 k).o f10_D_ok (orc_ok (S12 k).o f12_D_ok (orc_ok (S16 k).o f16_D_ok (orc_ok (S24 k).o f24_D_ok (orc_ok (S25 k).o f25_D_ok orc0_ok))))) (f := 19) (fn := Try.f19) (code := f19_code) Try.func19 (by kernel_rfl) (drawsOk_of laidOut (orc_ok (S10 k).o f10_D_ok (orc_ok (S12 k).o f12_D_ok (orc_ok (S16 k).o f16_D_ok (orc_ok (S24 k).o f24_D_ok (orc_ok (S25 k).o f25_D_ok orc0_ok))))) mixed (by kernel_rfl)) f19_un f19_un_ok [2000000] (fun _ => rfl)
      (fun x ret => f19_eq k (G10 k) (G12 k) (G16 k) (G24 k) (G25 k) ret x)

/- catchpole/byteset.All -/
noncomputable def f13_I : Unit → List SV × Obs := fun x => ([], [])
noncomputable def f13_D : List SV → Obs → Option (Unit)
  | [], [] => some ()
  | _, _ => none
theorem f13_D_ok (args : List SV) (B : Obs) (x : Unit) (h : f13_D args B = some x) : f13_I x = (args, B) := by
  unfold f13_D at h
  split at h
  · injection h with h; subst h; rfl
  · cases h
noncomputable def f13_O : PV → Out := (fun y => ([.val 32 y], []))
noncomputable def f13_un : Out → Option (PV)
  | ([.val 32 y0], []) => some y0
  | _ => none
theorem f13_un_ok (o : Out) (y : PV) (h : f13_un o = some y) : o = f13_O y := by
  unfold f13_un at h
  split at h
  · injection h with h; subst h; rfl
  · cases h
noncomputable def f13_msk : Nat → Option (List Nat) := fun key =>  none
noncomputable def f13_C (c10 : PV → (PV → R) → R) : Oracle := orc 10 f10_D f10_O (fun x ret => c10 x (fun y0 => ret y0)) <| orc0
noncomputable def f13_E (k : Nat) (c10 : PV → (PV → R) → R) : Env := { P := Try.prog, nilOwn := fun d => false, fldOwn := fun d i => false, ownPar := ownPars, ownRet := false, mask := f13_msk, fuel := k, C := f13_C c10 }
noncomputable def f13_code : Code := Try.f13.body.getD .skip
noncomputable def f13_e (c10 : PV → (PV → R) → R) (ret0 : PV → R) : R :=
  c10 (PV.agg [(PV.int 0), (PV.int 0), (PV.int 0), (PV.int 0)]) fun p1 =>
  ret0 p1

theorem f13_e_mem (k : Nat) (c10 : PV → (PV → R) → R) (retF : PV → R) : exec (f13_E k c10) f13_code (endK (f13_E k c10) Try.f13 [] f13_un retF) ⟨[.undef, .undef, .undef], []⟩ = f13_e c10 (fun y0 => retF y0) := by kernel_rfl

noncomputable def f13_N (k : Nat) (c10 : PV → (PV → R) → R) (ret0 : PV → R) : R :=
  f13_e c10 ret0
theorem f13_eq (k : Nat) (c10 : PV → (PV → R) → R) (retF : PV → R) : exec (f13_E k c10) f13_code (endK (f13_E k c10) Try.f13 [] f13_un retF) ⟨[.undef, .undef, .undef], []⟩ = f13_N k c10 (fun y0 => retF y0) :=
  (f13_e_mem k c10 retF)

noncomputable def G13 : Nat → (PV → R) → R
  | 0, _ => none
  | k + 1, ret0 => f13_N k (G10 k) ret0 
theorem S13 : ∀ k, Snd Try.prog 13 f13_I f13_O (fun x ret => G13 k (fun y0 => ret y0))
  | 0 => snd_none
  | k + 1 => snd_step (E := f13_E k (G10 k)) rfl laidOut noNums (orc_ok (S10 k).o f10_D_ok orc0_ok) (f := 13) (fn := Try.f13) (code := f13_code) Try.func13 (by kernel_rfl) (drawsOk_of laidOut (orc_ok (S10 k).o f10_D_ok orc0_ok) mixed (by kernel_rfl)) f13_un f13_un_ok [] (fun _ => rfl)
      (fun x ret => f13_eq k (G10 k) ret)

/- catchpole/token.sign -/
noncomputable def f21_I : PV × Int → List SV × Obs := fun x => ([.val 39 x.1, .int .u8 x.2], [])
noncomputable def f21_D : List SV → Obs → Option (PV × Int)
  | [.val 39 p1, .int .u8 n2], [] => some (p1, n2)
  | _, _ => none
theorem f21_D_ok (args : List SV) (B : Obs) (x : PV × Int) (h : f21_D args B = some x) : f21_I x = (args, B) := by
  unfold f21_D at h
  split at h
  · injection h with h; subst h; rfl
  · cases h
noncomputable def f21_O : PV → Out := (fun y => ([.val 39 y], []))
noncomputable def f21_un : Out → Option (PV)
  | ([.val 39 y0], []) => some y0
  | _ => none
theorem f21_un_ok (o : Out) (y : PV) (h : f21_un o = some y) : o = f21_O y := by
  unfold f21_un at h
  split at h
  · injection h with h; subst h; rfl
  · cases h
noncomputable def f21_msk : Nat → Option (List Nat) := fun key =>  none
noncomputable def f21_C (c13 : (PV → R) → R) : Oracle := orc 13 f13_D f13_O (fun x ret => c13 (fun y0 => ret y0)) <| orc0
noncomputable def f21_E (k : Nat) (c13 : (PV → R) → R) : Env := { P := Try.prog, nilOwn := fun d => false, fldOwn := fun d i => false, ownPar := ownPars, ownRet := false, mask := f21_msk, fuel := k, C := f21_C c13 }
noncomputable def f21_code : Code := Try.f21.body.getD .skip
noncomputable def f21_e (c13 : (PV → R) → R) (ret0 : PV → R) (p1 : PV) (n2 : Int) : R :=
  bif (decide (n2 = (40 : Int))) then
    ret0 (PV.agg (List.set (PV.flds p1) 0 (PV.int 2)))
  else bif (decide (n2 = (41 : Int))) then
    ret0 (PV.agg (List.set (PV.flds p1) 0 (PV.int 4)))
  else bif (decide (n2 = (124 : Int))) then
    ret0 (PV.agg (List.set (PV.flds p1) 0 (PV.int 5)))
  else bif (decide (n2 = (94 : Int))) then
    ret0 (PV.agg (List.set (PV.flds p1) 0 (PV.int 7)))
  else bif (decide (n2 = (36 : Int))) then
    ret0 (PV.agg (List.set (PV.flds p1) 0 (PV.int 8)))
  else bif (decide (n2 = (42 : Int))) then
    ret0 (PV.agg (List.set (PV.flds (PV.agg (List.set (PV.flds p1) 0 (PV.int 6)))) 3 (PV.int (-1))))
  else bif (decide (n2 = (43 : Int))) then
    let p3 : PV := (PV.agg (List.set (PV.flds (PV.agg (List.set (PV.flds (PV.agg (List.set (PV.flds p1) 0 (PV.int 6)))) 2 (PV.int 1)))) 3 (PV.int (-1))))
    ret0 p3
  else bif (decide (n2 = (63 : Int))) then
    ret0 (PV.agg (List.set (PV.flds (PV.agg (List.set (PV.flds p1) 0 (PV.int 6)))) 3 (PV.int 1)))
  else c13 fun p4 =>
  ret0 (PV.agg (List.set (PV.flds (PV.agg (List.set (PV.flds p1) 0 (PV.int 1)))) 1 p4))

theorem f21_e_mem (k : Nat) (c13 : (PV → R) → R) (retF : PV → R) (p1 : PV) (n2 : Int) : exec (f21_E k c13) f21_code (endK (f21_E k c13) Try.f21 [] f21_un retF) ⟨[.val 39 p1, .int .u8 n2, .undef, .undef, .undef, .undef, .undef, .undef, .undef, .undef, .undef, .undef, .undef, .undef, .undef, .undef, .undef, .undef, .undef, .undef, .undef, .undef, .undef, .undef, .undef, .undef, .undef, .undef, .undef, .undef, .undef, .undef, .undef, .undef, .undef, .undef, .undef, .undef], []⟩ = f21_e c13 (fun y0 => retF y0) p1 n2 := by kernel_rfl

noncomputable def f21_N (k : Nat) (c13 : (PV → R) → R) (ret0 : PV → R) (p1 : PV) (n2 : Int) : R :=
  f21_e c13 ret0 p1 n2
theorem f21_eq (k : Nat) (c13 : (PV → R) → R) (retF : PV → R) (p1 : PV) (n2 : Int) : exec (f21_E k c13) f21_code (endK (f21_E k c13) Try.f21 [] f21_un retF) ⟨[.val 39 p1, .int .u8 n2, .undef, .undef, .undef, .undef, .undef, .undef, .undef, .undef, .undef, .undef, .undef, .undef, .undef, .undef, .undef, .undef, .undef, .undef, .undef, .undef, .undef, .undef, .undef, .undef, .undef, .undef, .undef, .undef, .undef, .undef, .undef, .undef, .undef, .undef, .undef, .undef], []⟩ = f21_N k c13 (fun y0 => retF y0) p1 n2 :=
  (f21_e_mem k c13 retF p1 n2)

noncomputable def G21 : Nat → PV → Int → (PV → R) → R
  | 0, _, _, _ => none
  | k + 1, p1, n2, ret0 => f21_N k (G13 k) ret0 p1 n2
theorem S21 : ∀ k, Snd Try.prog 21 f21_I f21_O (fun x ret => G21 k x.1 x.2 (fun y0 => ret y0))
  | 0 => snd_none
  | k + 1 => snd_step (E := f21_E k (G13 k)) rfl laidOut noNums (orc_ok (S13 k).o f13_D_ok orc0_ok) (f := 21) (fn := Try.f21) (code := f21_code) Try.func21 (by kernel_rfl) (drawsOk_of laidOut (orc_ok (S13 k).o f13_D_ok orc0_ok) mixed (by kernel_rfl)) f21_un f21_un_ok [] (fun _ => rfl)
      (fun x ret => f21_eq k (G13 k) ret x.1 x.2)

/- (*catchpole/token.cutter).one -/
noncomputable def f15_I : PV → List SV × Obs := fun x => ([.ptr 2000000 []], [(2000000, .box 48 (.val 48 x))])
noncomputable def f15_D : List SV → Obs → Option (PV)
  | [.ptr 2000000 []], [(2000000, .box 48 (.val 48 p1))] => some p1
  | _, _ => none
theorem f15_D_ok (args : List SV) (B : Obs) (x : PV) (h : f15_D args B = some x) : f15_I x = (args, B) := by
  unfold f15_D at h
  split at h
  · injection h with h; subst h; rfl
  · cases h
noncomputable def f15_O : PV × Int × PV → Out := (fun y => ([.val 39 y.1, .int .i64 y.2.1], [(2000000, .box 48 (.val 48 y.2.2))]))
noncomputable def f15_un : Out → Option (PV × Int × PV)
  | ([.val 39 y0, .int .i64 y1], [(2000000, .box 48 (.val 48 y2))]) => some (y0, y1, y2)
  | _ => none
theorem f15_un_ok (o : Out) (y : PV × Int × PV) (h : f15_un o = some y) : o = f15_O y := by
  unfold f15_un at h
  split at h
  · injection h with h; subst h; rfl
  · cases h
noncomputable def f15_msk : Nat → Option (List Nat) := fun key =>  none
noncomputable def f15_C (c9 : PV → (PV → R) → R) (c16 : (List Int) → PV → (Bool → PV → R) → R) (c17 : PV → (Int → Int → Int → PV → R) → R) (c18 : PV → (PV → Int → PV → R) → R) (c19 : PV → (PV → Int → PV → R) → R) (c20 : (List Int) → Int → (Int → R) → R) (c21 : PV → Int → (PV → R) → R) : Oracle := orc 9 f9_D f9_O (fun x ret => c9 x (fun y0 => ret y0)) <| orc 16 f16_D f16_O (fun x ret => c16 x.1 x.2 (fun y0 y1 => ret (y0, y1))) <| orc 17 f17_D f17_O (fun x ret => c17 x (fun y0 y1 y2 y3 => ret (y0, y1, y2, y3))) <| orc 18 f18_D f18_O (fun x ret => c18 x (fun y0 y1 y2 => ret (y0, y1, y2))) <| orc 19 f19_D f19_O (fun x ret => c19 x (fun y0 y1 y2 => ret (y0, y1, y2))) <| orc 20 f20_D f20_O (fun x ret => c20 x.1 x.2 (fun y0 => ret y0)) <| orc 21 f21_D f21_O (fun x ret => c21 x.1 x.2 (fun y0 => ret y0)) <| orc0
noncomputable def f15_E (k : Nat) (c9 : PV → (PV → R) → R) (c16 : (List Int) → PV → (Bool → PV → R) → R) (c17 : PV → (Int → Int → Int → PV → R) → R) (c18 : PV → (PV → Int → PV → R) → R) (c19 : PV → (PV → Int → PV → R) → R) (c20 : (List Int) → Int → (Int → R) → R) (c21 : PV → Int → (PV → R) → R) : Env := { P := Try.prog, nilOwn := fun d => false, fldOwn := fun d i => false, ownPar := ownPars, ownRet := false, mask := f15_msk, fuel := k, C := f15_C c9 c16 c17 c18 c19 c20 c21 }
noncomputable def f15_code : Code := Try.f15.body.getD .skip
noncomputable def f15_e (c9 : PV → (PV → R) → R) (c16 : (List Int) → PV → (Bool → PV → R) → R) (c17 : PV → (Int → Int → Int → PV → R) → R) (c18 : PV → (PV → Int → PV → R) → R) (c19 : PV → (PV → Int → PV → R) → R) (c20 : (List Int) → Int → (Int → R) → R) (c21 : PV → Int → (PV → R) → R) (ret0 : PV → Int → PV → R) (p1 : PV) : R :=
  bif (decide ((0 : Int) ≤ (PV.num (PV.fld p1 1))) && decide ((PV.num (PV.fld p1 1)) < (List.length (PV.chars (PV.fld p1 0)) : Int))) then
    c16 [40, 63, 58] p1 fun b2 p3 =>
    bif b2 then
      ret0 (PV.agg [(PV.int 3), (PV.agg [(PV.int 0), (PV.int 0), (PV.int 0), (PV.int 0)]), (PV.int 0), (PV.int 0), (PV.int (PV.num (PV.fld p1 1)))]) 0 p3
    else c16 [123] p3 fun b4 p5 =>
    bif b4 then
      c17 p5 fun n6 n7 n8 p9 =>
      ret0 (PV.agg [(PV.int 6), (PV.agg [(PV.int 0), (PV.int 0), (PV.int 0), (PV.int 0)]), (PV.int n6), (PV.int n7), (PV.int (PV.num (PV.fld p1 1)))]) n8 p9
    else c16 [92] p5 fun b10 p11 =>
    bif b10 then
      c18 p11 fun p12 n13 p14 =>
      ret0 (PV.agg [(PV.int 1), p12, (PV.int 0), (PV.int 0), (PV.int (PV.num (PV.fld p1 1)))]) n13 p14
    else c16 [91] p11 fun b15 p16 =>
    bif b15 then
      c19 p16 fun p17 n18 p19 =>
      ret0 (PV.agg [(PV.int 1), p17, (PV.int 0), (PV.int 0), (PV.int (PV.num (PV.fld p1 1)))]) n18 p19
    else c20 [40, 41, 124, 94, 36, 42, 43, 63, 46] (List.getD (PV.chars (PV.fld p1 0)) ((PV.num (PV.fld p1 1))).toNat 0) fun n20 =>
    bif (decide ((0 : Int) ≤ n20)) then
      let p21 : PV := (PV.agg (List.set (PV.flds p16) 1 (PV.int (IntKind.wrap .i64 ((PV.num (PV.fld p16 1)) + (1 : Int))))))
      c21 (PV.agg [(PV.int 0), (PV.agg [(PV.int 0), (PV.int 0), (PV.int 0), (PV.int 0)]), (PV.int 0), (PV.int 0), (PV.int (PV.num (PV.fld p1 1)))]) (List.getD (PV.chars (PV.fld p1 0)) ((PV.num (PV.fld p1 1))).toNat 0) fun p22 =>
      ret0 p22 0 p21
    else let p23 : PV := (PV.agg (List.set (PV.flds p16) 1 (PV.int (IntKind.wrap .i64 ((PV.num (PV.fld p16 1)) + (1 : Int))))))
    c9 (PV.list [(PV.int (List.getD (PV.chars (PV.fld p1 0)) ((PV.num (PV.fld p1 1))).toNat 0))]) fun p24 =>
    ret0 (PV.agg [(PV.int 1), p24, (PV.int 0), (PV.int 0), (PV.int (PV.num (PV.fld p1 1)))]) 0 p23
  else none

theorem f15_e_mem (k : Nat) (c9 : PV → (PV → R) → R) (c16 : (List Int) → PV → (Bool → PV → R) → R) (c17 : PV → (Int → Int → Int → PV → R) → R) (c18 : PV → (PV → Int → PV → R) → R) (c19 : PV → (PV → Int → PV → R) → R) (c20 : (List Int) → Int → (Int → R) → R) (c21 : PV → Int → (PV → R) → R) (retF : PV × Int × PV → R) (p1 : PV) : exec (f15_E k c9 c16 c17 c18 c19 c20 c21) f15_code (endK (f15_E k c9 c16 c17 c18 c19 c20 c21) Try.f15 [2000000] f15_un retF) ⟨[.ptr 2000000 [], .undef, .undef, .undef, .undef, .undef, .undef, .undef, .undef, .undef, .undef, .undef, .undef, .undef, .undef, .undef, .undef, .undef, .undef, .undef, .undef, .undef, .undef, .undef, .undef, .undef, .undef, .undef, .undef, .undef, .undef, .undef, .undef, .undef, .undef, .undef, .undef, .undef, .undef, .undef, .undef, .undef, .undef, .undef, .undef, .undef, .undef, .undef, .undef, .undef, .undef, .undef, .undef, .undef, .undef, .undef, .undef, .undef, .undef, .undef, .undef, .undef, .undef, .undef, .undef, .undef, .undef, .undef, .undef, .undef, .undef, .undef, .undef, .undef, .undef, .undef, .undef, .undef, .undef, .undef, .undef, .undef, .undef, .undef, .undef], [(2000000, .box 48 (.val 48 p1))]⟩ = f15_e c9 c16 c17 c18 c19 c20 c21 (fun y0 y1 y2 => retF (y0, y1, y2)) p1 := by kernel_rfl

noncomputable def f15_N (k : Nat) (c9 : PV → (PV → R) → R) (c16 : (List Int) → PV → (Bool → PV → R) → R) (c17 : PV → (Int → Int → Int → PV → R) → R) (c18 : PV → (PV → Int → PV → R) → R) (c19 : PV → (PV → Int → PV → R) → R) (c20 : (List Int) → Int → (Int → R) → R) (c21 : PV → Int → (PV → R) → R) (ret0 : PV → Int → PV → R) (p1 : PV) : R :=
  f15_e c9 c16 c17 c18 c19 c20 c21 ret0 p1
theorem f15_eq (k : Nat) (c9 : PV → (PV → R) → R) (c16 : (List Int) → PV → (Bool → PV → R) → R) (c17 : PV → (Int → Int → Int → PV → R) → R) (c18 : PV → (PV → Int → PV → R) → R) (c19 : PV → (PV → Int → PV → R) → R) (c20 : (List Int) → Int → (Int → R) → R) (c21 : PV → Int → (PV → R) → R) (retF : PV × Int × PV → R) (p1 : PV) : exec (f15_E k c9 c16 c17 c18 c19 c20 c21) f15_code (endK (f15_E k c9 c16 c17 c18 c19 c20 c21) Try.f15 [2000000] f15_un retF) ⟨[.ptr 2000000 [], .undef, .undef, .undef, .undef, .undef, .undef, .undef, .undef, .undef, .undef, .undef, .undef, .undef, .undef, .undef, .undef, .undef, .undef, .undef, .undef, .undef, .undef, .undef, .undef, .undef, .undef, .undef, .undef, .undef, .undef, .undef, .undef, .undef, .undef, .undef, .undef, .undef, .undef, .undef, .undef, .undef, .undef, .undef, .undef, .undef, .undef, .undef, .undef, .undef, .undef, .undef, .undef, .undef, .undef, .undef, .undef, .undef, .undef, .undef, .undef, .undef, .undef, .undef, .undef, .undef, .undef, .undef, .undef, .undef, .undef, .undef, .undef, .undef, .undef, .undef, .undef, .undef, .undef, .undef, .undef, .undef, .undef, .undef, .undef], [(2000000, .box 48 (.val 48 p1))]⟩ = f15_N k c9 c16 c17 c18 c19 c20 c21 (fun y0 y1 y2 => retF (y0, y1, y2)) p1 :=
  (f15_e_mem k c9 c16 c17 c18 c19 c20 c21 retF p1)

noncomputable def G15 : Nat → PV → (PV → Int → PV → R) → R
  | 0, _, _ => none
  | k + 1, p1, ret0 => f15_N k (G9 k) (G16 k) (G17 k) (G18 k) (G19 k) (G20 k) (G21 k) ret0 p1
theorem S15 : ∀ k, Snd Try.prog 15 f15_I f15_O (fun x ret => G15 k x (fun y0 y1 y2 => ret (y0, y1, y2)))
  | 0 => snd_none
  | k + 1 => snd_step (E := f15_E k (G9 k) (G16 k) (G17 k) (G18 k) (G19 k) (G20 k) (G21 k)) rfl laidOut noNums (orc_ok (S9 k).o f9_D_ok (orc_ok (S16 k).o f16_D_ok (orc_ok (S17 k).o f17_D_ok (orc_ok (S18 k).o f18_D_ok (orc_ok (S19 k).o f19_D_ok (orc_ok (S20 k).o f20_D_ok (orc_ok (S21 k).o f21_D_ok orc0_ok))))))) (f := 15) (fn := Try.f15) (code := f15_code) Try.func15 (by kernel_rfl) (drawsOk_of laidOut (orc_ok (S9 k).o f9_D_ok (orc_ok (S16 k).o f16_D_ok (orc_ok (S17 k).o f17_D_ok (orc_ok (S18 k).o f18_D_ok (orc_ok (S19 k).o f19_D_ok (orc_ok (S20 k).o f20_D_ok (orc_ok (S21 k).o f21_D_ok orc0_ok))))))) mixed (by kernel_rfl)) f15_un f15_un_ok [2000000] (fun _ => rfl)
      (fun x ret => f15_eq k (G9 k) (G16 k) (G17 k) (G18 k) (G19 k) (G20 k) (G21 k) ret x)

/- catchpole/token.Cut -/
noncomputable def f8_I : (List Int) → List SV × Obs := fun x => ([.str x], [])
noncomputable def f8_D : List SV → Obs → Option ((List Int))
  | [.str s1], [] => some s1
  | _, _ => none
theorem f8_D_ok (args : List SV) (B : Obs) (x : (List Int)) (h : f8_D args B = some x) : f8_I x = (args, B) := by
  unfold f8_D at h
  split at h
  · injection h with h; subst h; rfl
  · cases h
noncomputable def f8_O : PV × Int × Int → Out := (fun y => ([.val 27 y.1, .int .i64 y.2.1, .int .i64 y.2.2], []))
noncomputable def f8_un : Out → Option (PV × Int × Int)
  | ([.val 27 y0, .int .i64 y1, .int .i64 y2], []) => some (y0, y1, y2)
  | _ => none
theorem f8_un_ok (o : Out) (y : PV × Int × Int) (h : f8_un o = some y) : o = f8_O y := by
  unfold f8_un at h
  split at h
  · injection h with h; subst h; rfl
  · cases h
noncomputable def f8_msk : Nat → Option (List Nat) := fun key => bif key == 15 then some [0, 5, 6] else none
noncomputable def f8_C (c15 : PV → (PV → Int → PV → R) → R) : Oracle := orc 15 f15_D f15_O (fun x ret => c15 x (fun y0 y1 y2 => ret (y0, y1, y2))) <| orc0
noncomputable def f8_E (k : Nat) (c15 : PV → (PV → Int → PV → R) → R) : Env := { P := Try.prog, nilOwn := fun d => d == 6, fldOwn := fun d i => false, ownPar := ownPars, ownRet := false, mask := f8_msk, fuel := k, C := f8_C c15 }
noncomputable def f8_code : Code := Try.f8.body.getD .skip
noncomputable def f8_cw1 : Code := subC f8_code [1, 1, 1, 1, 0, 0, 0]
noncomputable def f8_hw1_0 (s1 : List Int) (l5 : List PV) (p6 : PV) : St := ⟨[.str s1, .dead, .dead, .dead, .dead, .ptr 15 [], .own 27 6, .dead, .dead, .dead, .dead, .dead, .dead, .dead, .dead, .dead, .dead, .dead, .dead, .dead, .dead, .dead, .dead, .dead, .dead, .dead, .dead, .dead, .dead, .dead, .dead, .dead, .dead, .dead, .dead, .dead, .dead, .dead, .dead, .dead, .dead, .dead, .dead], [(6, .row 39 l5), (15, .box 48 (.val 48 p6))]⟩
noncomputable def f8_w1A (k : Nat) (c15 : PV → (PV → Int → PV → R) → R) (retF : PV × Int × Int → R) (s1 : List Int) (l5 : List PV) (p6 : PV) : R := loopM (f8_E k c15) f8_cw1 (kont (f8_E k c15) f8_code [1, 1, 1, 1, 0, 0] (endK (f8_E k c15) Try.f8 [] f8_un retF)) k (f8_hw1_0 s1 l5 p6)
noncomputable def f8_w1b0 (c15 : PV → (PV → Int → PV → R) → R) (ret0 : PV → Int → Int → R) (next_w1_0 : (List PV) → PV → R) (s1 : List Int) (l5 : List PV) (p6 : PV) : R :=
  bif (decide ((PV.num (PV.fld p6 1)) < (List.length s1 : Int))) then
    c15 p6 fun p7 n8 p9 =>
    bif (!(decide (n8 = (0 : Int)))) then
      ret0 (PV.list []) (PV.num (PV.fld p6 1)) n8
    else bif (true && roomy (List.length l5 + List.length [p7]) 64) then
      next_w1_0 (l5 ++ [p7]) p9
    else none
  else ret0 (PV.list l5) (List.length s1 : Int) 0

theorem f8_w1b0_mem (k : Nat) (c15 : PV → (PV → Int → PV → R) → R) (retF : PV × Int × Int → R) (NX_w1 : St → R) (s1 : List Int) (l5 : List PV) (p6 : PV) : exec (f8_E k c15) f8_cw1 (purgeK (f8_E k c15) f8_cw1 (loopK NX_w1 (kont (f8_E k c15) f8_code [1, 1, 1, 1, 0, 0] (endK (f8_E k c15) Try.f8 [] f8_un retF)))) (f8_hw1_0 s1 l5 p6) = f8_w1b0 c15 (fun y0 y1 y2 => retF (y0, y1, y2)) (fun l5 p6 => NX_w1 (f8_hw1_0 s1 l5 p6)) s1 l5 p6 := by kernel_rfl

noncomputable def f8_w1b0N (k : Nat) (c15 : PV → (PV → Int → PV → R) → R) (ret0 : PV → Int → Int → R) (next_w1_0 : (List PV) → PV → R) (s1 : List Int) (l5 : List PV) (p6 : PV) : R :=
  f8_w1b0 c15 ret0 next_w1_0 s1 l5 p6
theorem f8_w1b0_eq (k : Nat) (c15 : PV → (PV → Int → PV → R) → R) (retF : PV × Int × Int → R) (NX_w1 : St → R) (s1 : List Int) (l5 : List PV) (p6 : PV) : exec (f8_E k c15) f8_cw1 (purgeK (f8_E k c15) f8_cw1 (loopK NX_w1 (kont (f8_E k c15) f8_code [1, 1, 1, 1, 0, 0] (endK (f8_E k c15) Try.f8 [] f8_un retF)))) (f8_hw1_0 s1 l5 p6) = f8_w1b0N k c15 (fun y0 y1 y2 => retF (y0, y1, y2)) (fun l5 p6 => NX_w1 (f8_hw1_0 s1 l5 p6)) s1 l5 p6 :=
  (f8_w1b0_mem k c15 retF NX_w1 s1 l5 p6)

noncomputable def f8_w1B (k : Nat) (c15 : PV → (PV → Int → PV → R) → R) (ret0 : PV → Int → Int → R) (s1 : List Int) (nx : (List PV) × PV → R) : (List PV) × PV → R := (fun s => f8_w1b0N k c15 ret0 (fun l5 p6 => nx (l5, p6)) s1 s.1 s.2)
noncomputable def f8_w1N (k : Nat) (c15 : PV → (PV → Int → PV → R) → R) (ret0 : PV → Int → Int → R) (s1 : List Int) (l5 : List PV) (p6 : PV) : R := loopR (f8_w1B k c15 ret0 s1) k (l5, p6)
theorem f8_w1_eq (k : Nat) (c15 : PV → (PV → Int → PV → R) → R) (retF : PV × Int × Int → R) (s1 : List Int) (l5 : List PV) (p6 : PV) : f8_w1A k c15 retF s1 l5 p6 = f8_w1N k c15 (fun y0 y1 y2 => retF (y0, y1, y2)) s1 l5 p6 :=
  Eq.mp (by kernel_rfl) (loop_sim (E := (f8_E k c15)) (c := f8_cw1) (K := (kont (f8_E k c15) f8_code [1, 1, 1, 1, 0, 0] (endK (f8_E k c15) Try.f8 [] f8_un retF))) (S := (List PV) × PV) (fun s => f8_hw1_0 s1 s.1 s.2) (f8_w1B k c15 (fun y0 y1 y2 => retF (y0, y1, y2)) s1) (fun NX s => by
    exact Eq.mp (by kernel_rfl) (f8_w1b0_eq k c15 retF NX s1 s.1 s.2)) k (l5, p6))

noncomputable def f8_e (c15 : PV → (PV → Int → PV → R) → R) (ret0 : PV → Int → Int → R) (w1 : (List PV) → PV → R) (s1 : List Int) : R :=
  bif (decide ((1024 : Int) < (List.length s1 : Int))) then
    ret0 (PV.list []) 1024 4
  else w1 [] (PV.agg [(PV.str s1), (PV.int 0)])

theorem f8_e_mem (k : Nat) (c15 : PV → (PV → Int → PV → R) → R) (retF : PV × Int × Int → R) (s1 : List Int) : exec (f8_E k c15) f8_code (endK (f8_E k c15) Try.f8 [] f8_un retF) ⟨[.str s1, .undef, .undef, .undef, .undef, .undef, .undef, .undef, .undef, .undef, .undef, .undef, .undef, .undef, .undef, .undef, .undef, .undef, .undef, .undef, .undef, .undef, .undef, .undef, .undef, .undef, .undef, .undef, .undef, .undef, .undef, .undef, .undef, .undef, .undef, .undef, .undef, .undef, .undef, .undef, .undef, .undef, .undef], []⟩ = f8_e c15 (fun y0 y1 y2 => retF (y0, y1, y2)) (fun l5 p6 => f8_w1A k c15 retF s1 l5 p6) s1 := by kernel_rfl

noncomputable def f8_N (k : Nat) (c15 : PV → (PV → Int → PV → R) → R) (ret0 : PV → Int → Int → R) (s1 : List Int) : R :=
  f8_e c15 ret0 (fun l5 p6 => f8_w1N k c15 ret0 s1 l5 p6) s1
theorem f8_eq (k : Nat) (c15 : PV → (PV → Int → PV → R) → R) (retF : PV × Int × Int → R) (s1 : List Int) : exec (f8_E k c15) f8_code (endK (f8_E k c15) Try.f8 [] f8_un retF) ⟨[.str s1, .undef, .undef, .undef, .undef, .undef, .undef, .undef, .undef, .undef, .undef, .undef, .undef, .undef, .undef, .undef, .undef, .undef, .undef, .undef, .undef, .undef, .undef, .undef, .undef, .undef, .undef, .undef, .undef, .undef, .undef, .undef, .undef, .undef, .undef, .undef, .undef, .undef, .undef, .undef, .undef, .undef, .undef], []⟩ = f8_N k c15 (fun y0 y1 y2 => retF (y0, y1, y2)) s1 :=
  (f8_e_mem k c15 retF s1).trans (by rw [show (fun l5 p6 => f8_w1A k c15 retF s1 l5 p6) = (fun l5 p6 => f8_w1N k c15 (fun y0 y1 y2 => retF (y0, y1, y2)) s1 l5 p6) from funext fun l5 => funext fun p6 => f8_w1_eq k c15 retF s1 l5 p6]; rfl)

noncomputable def G8 : Nat → (List Int) → (PV → Int → Int → R) → R
  | 0, _, _ => none
  | k + 1, s1, ret0 => f8_N k (G15 k) ret0 s1
theorem S8 : ∀ k, Snd Try.prog 8 f8_I f8_O (fun x ret => G8 k x (fun y0 y1 y2 => ret (y0, y1, y2)))
  | 0 => snd_none
  | k + 1 => snd_step (E := f8_E k (G15 k)) rfl laidOut noNums (orc_ok (S15 k).o f15_D_ok orc0_ok) (f := 8) (fn := Try.f8) (code := f8_code) Try.func8 (by kernel_rfl) (drawsOk_of laidOut (orc_ok (S15 k).o f15_D_ok orc0_ok) mixed (by kernel_rfl)) f8_un f8_un_ok [] (fun _ => rfl)
      (fun x ret => f8_eq k (G15 k) ret x)

/- catchpole/catchpolelaw4.awake -/
noncomputable def f7_I : Unit → List SV × Obs := fun x => ([], [])
noncomputable def f7_D : List SV → Obs → Option (Unit)
  | [], [] => some ()
  | _, _ => none
theorem f7_D_ok (args : List SV) (B : Obs) (x : Unit) (h : f7_D args B = some x) : f7_I x = (args, B) := by
  unfold f7_D at h
  split at h
  · injection h with h; subst h; rfl
  · cases h
noncomputable def f7_O : Bool → Out := (fun y => ([.bool y], []))
noncomputable def f7_un : Out → Option (Bool)
  | ([.bool y0], []) => some y0
  | _ => none
theorem f7_un_ok (o : Out) (y : Bool) (h : f7_un o = some y) : o = f7_O y := by
  unfold f7_un at h
  split at h
  · injection h with h; subst h; rfl
  · cases h
noncomputable def f7_msk : Nat → Option (List Nat) := fun key =>  none
noncomputable def f7_C (c8 : (List Int) → (PV → Int → Int → R) → R) (c9 : PV → (PV → R) → R) : Oracle := orc 8 f8_D f8_O (fun x ret => c8 x (fun y0 y1 y2 => ret (y0, y1, y2))) <| orc 9 f9_D f9_O (fun x ret => c9 x (fun y0 => ret y0)) <| orc0
noncomputable def f7_E (k : Nat) (c8 : (List Int) → (PV → Int → Int → R) → R) (c9 : PV → (PV → R) → R) : Env := { P := Try.prog, nilOwn := fun d => false, fldOwn := fun d i => false, ownPar := ownPars, ownRet := false, mask := f7_msk, fuel := k, C := f7_C c8 c9 }
noncomputable def f7_code : Code := Try.f7.body.getD .skip
noncomputable def f7_e (c8 : (List Int) → (PV → Int → Int → R) → R) (c9 : PV → (PV → R) → R) (ret0 : Bool → R) : R :=
  c8 [97, 123, 50, 44, 125] fun p1 n2 n3 =>
  bif ((decide (n3 = (0 : Int))) == true) then
    bif ((decide (n2 = (5 : Int))) == true) then
      bif ((decide ((List.length (PV.els p1) : Int) = (2 : Int))) == true) then
        bif (true && decide ((0 : Int) ≤ (0 : Int)) && decide ((0 : Int) < (List.length (PV.els p1) : Int))) then
          c9 (PV.list [(PV.int 97)]) fun p4 =>
          let b5 : Bool := (PV.beq (List.getD (PV.els p1) ((0 : Int)).toNat PV.nil) (PV.agg [(PV.int 1), p4, (PV.int 0), (PV.int 0), (PV.int 0)]))
          bif (b5 == true) then
            bif (true && decide ((0 : Int) ≤ (1 : Int)) && decide ((1 : Int) < (List.length (PV.els p1) : Int))) then
              let b6 : Bool := (PV.beq (List.getD (PV.els p1) ((1 : Int)).toNat PV.nil) (PV.agg [(PV.int 6), (PV.agg [(PV.int 0), (PV.int 0), (PV.int 0), (PV.int 0)]), (PV.int 2), (PV.int (-1)), (PV.int 1)]))
              ret0 b6
            else none
          else ret0 false
        else none
      else ret0 false
    else ret0 false
  else ret0 false

theorem f7_e_mem (k : Nat) (c8 : (List Int) → (PV → Int → Int → R) → R) (c9 : PV → (PV → R) → R) (retF : Bool → R) : exec (f7_E k c8 c9) f7_code (endK (f7_E k c8 c9) Try.f7 [] f7_un retF) ⟨[.undef, .undef, .undef, .undef, .undef, .undef, .undef, .undef, .undef, .undef, .undef, .undef, .undef, .undef, .undef, .undef, .undef, .undef, .undef, .undef, .undef, .undef, .undef, .undef, .undef, .undef, .undef, .undef, .undef, .undef, .undef, .undef, .undef, .undef, .undef, .undef], []⟩ = f7_e c8 c9 (fun y0 => retF y0) := by kernel_rfl

noncomputable def f7_N (k : Nat) (c8 : (List Int) → (PV → Int → Int → R) → R) (c9 : PV → (PV → R) → R) (ret0 : Bool → R) : R :=
  f7_e c8 c9 ret0
theorem f7_eq (k : Nat) (c8 : (List Int) → (PV → Int → Int → R) → R) (c9 : PV → (PV → R) → R) (retF : Bool → R) : exec (f7_E k c8 c9) f7_code (endK (f7_E k c8 c9) Try.f7 [] f7_un retF) ⟨[.undef, .undef, .undef, .undef, .undef, .undef, .undef, .undef, .undef, .undef, .undef, .undef, .undef, .undef, .undef, .undef, .undef, .undef, .undef, .undef, .undef, .undef, .undef, .undef, .undef, .undef, .undef, .undef, .undef, .undef, .undef, .undef, .undef, .undef, .undef, .undef], []⟩ = f7_N k c8 c9 (fun y0 => retF y0) :=
  (f7_e_mem k c8 c9 retF)

noncomputable def G7 : Nat → (Bool → R) → R
  | 0, _ => none
  | k + 1, ret0 => f7_N k (G8 k) (G9 k) ret0 
theorem S7 : ∀ k, Snd Try.prog 7 f7_I f7_O (fun x ret => G7 k (fun y0 => ret y0))
  | 0 => snd_none
  | k + 1 => snd_step (E := f7_E k (G8 k) (G9 k)) rfl laidOut noNums (orc_ok (S8 k).o f8_D_ok (orc_ok (S9 k).o f9_D_ok orc0_ok)) (f := 7) (fn := Try.f7) (code := f7_code) Try.func7 (by kernel_rfl) (drawsOk_of laidOut (orc_ok (S8 k).o f8_D_ok (orc_ok (S9 k).o f9_D_ok orc0_ok)) mixed (by kernel_rfl)) f7_un f7_un_ok [] (fun _ => rfl)
      (fun x ret => f7_eq k (G8 k) (G9 k) ret)

/- catchpole/catchpolelaw4.TokenEscapes -/
noncomputable def f5_I : Int → List SV × Obs := fun x => ([.int .u8 x], [])
noncomputable def f5_D : List SV → Obs → Option (Int)
  | [.int .u8 n1], [] => some n1
  | _, _ => none
theorem f5_D_ok (args : List SV) (B : Obs) (x : Int) (h : f5_D args B = some x) : f5_I x = (args, B) := by
  unfold f5_D at h
  split at h
  · injection h with h; subst h; rfl
  · cases h
noncomputable def f5_O : Bool → Out := (fun y => ([.bool y], []))
noncomputable def f5_un : Out → Option (Bool)
  | ([.bool y0], []) => some y0
  | _ => none
theorem f5_un_ok (o : Out) (y : Bool) (h : f5_un o = some y) : o = f5_O y := by
  unfold f5_un at h
  split at h
  · injection h with h; subst h; rfl
  · cases h
noncomputable def f5_msk : Nat → Option (List Nat) := fun key =>  none
noncomputable def f5_C (c7 : (Bool → R) → R) (c8 : (List Int) → (PV → Int → Int → R) → R) (c9 : PV → (PV → R) → R) : Oracle := orc 7 f7_D f7_O (fun x ret => c7 (fun y0 => ret y0)) <| orc 8 f8_D f8_O (fun x ret => c8 x (fun y0 y1 y2 => ret (y0, y1, y2))) <| orc 9 f9_D f9_O (fun x ret => c9 x (fun y0 => ret y0)) <| orc0
noncomputable def f5_E (k : Nat) (c7 : (Bool → R) → R) (c8 : (List Int) → (PV → Int → Int → R) → R) (c9 : PV → (PV → R) → R) : Env := { P := Try.prog, nilOwn := fun d => false, fldOwn := fun d i => false, ownPar := ownPars, ownRet := false, mask := f5_msk, fuel := k, C := f5_C c7 c8 c9 }
noncomputable def f5_code : Code := Try.f5.body.getD .skip
noncomputable def f5_e (c7 : (Bool → R) → R) (c8 : (List Int) → (PV → Int → Int → R) → R) (c9 : PV → (PV → R) → R) (ret0 : Bool → R) (n1 : Int) : R :=
  c7 fun b2 =>
  bif (!b2) then
    ret0 false
  else c8 [92, n1] fun p3 n4 n5 =>
  bif (decide (n5 = (0 : Int))) then
    bif ((decide (n4 = (2 : Int))) == true) then
      bif ((decide ((List.length (PV.els p3) : Int) = (1 : Int))) == true) then
        bif (true && decide ((0 : Int) ≤ (0 : Int)) && decide ((0 : Int) < (List.length (PV.els p3) : Int))) then
          bif ((decide ((PV.num (PV.fld (List.getD (PV.els p3) ((0 : Int)).toNat PV.nil) 0)) = (1 : Int))) == true) then
            bif (true && decide ((0 : Int) ≤ (0 : Int)) && decide ((0 : Int) < (List.length (PV.els p3) : Int))) then
              c9 (PV.list [(PV.int n1)]) fun p6 =>
              ret0 (PV.beq (PV.fld (List.getD (PV.els p3) ((0 : Int)).toNat PV.nil) 1) p6)
            else none
          else ret0 false
        else none
      else ret0 false
    else ret0 false
  else c8 [n1] fun p7 n8 n9 =>
  bif ((decide (n4 = (0 : Int))) == true) then
    bif ((decide ((49 : Int) ≤ n1)) == true) then
      bif (((decide (n5 = (3 : Int))) == (decide (n1 ≤ (57 : Int)))) == true) then
        bif ((decide (n9 = (0 : Int))) == true) then
          bif ((decide (n8 = (1 : Int))) == true) then
            bif ((decide ((List.length (PV.els p7) : Int) = (1 : Int))) == true) then
              bif (true && decide ((0 : Int) ≤ (0 : Int)) && decide ((0 : Int) < (List.length (PV.els p7) : Int))) then
                c9 (PV.list [(PV.int n1)]) fun p10 =>
                let b11 : Bool := (PV.beq (List.getD (PV.els p7) ((0 : Int)).toNat PV.nil) (PV.agg [(PV.int 1), p10, (PV.int 0), (PV.int 0), (PV.int 0)]))
                ret0 b11
              else none
            else ret0 false
          else ret0 false
        else ret0 false
      else ret0 false
    else bif (((decide (n5 = (3 : Int))) == false) == true) then
      bif ((decide (n9 = (0 : Int))) == true) then
        bif ((decide (n8 = (1 : Int))) == true) then
          bif ((decide ((List.length (PV.els p7) : Int) = (1 : Int))) == true) then
            bif (true && decide ((0 : Int) ≤ (0 : Int)) && decide ((0 : Int) < (List.length (PV.els p7) : Int))) then
              c9 (PV.list [(PV.int n1)]) fun p12 =>
              let b13 : Bool := (PV.beq (List.getD (PV.els p7) ((0 : Int)).toNat PV.nil) (PV.agg [(PV.int 1), p12, (PV.int 0), (PV.int 0), (PV.int 0)]))
              ret0 b13
            else none
          else ret0 false
        else ret0 false
      else ret0 false
    else ret0 false
  else ret0 false

theorem f5_e_mem (k : Nat) (c7 : (Bool → R) → R) (c8 : (List Int) → (PV → Int → Int → R) → R) (c9 : PV → (PV → R) → R) (retF : Bool → R) (n1 : Int) : exec (f5_E k c7 c8 c9) f5_code (endK (f5_E k c7 c8 c9) Try.f5 [] f5_un retF) ⟨[.int .u8 n1, .undef, .undef, .undef, .undef, .undef, .undef, .undef, .undef, .undef, .undef, .undef, .undef, .undef, .undef, .undef, .undef, .undef, .undef, .undef, .undef, .undef, .undef, .undef, .undef, .undef, .undef, .undef, .undef, .undef, .undef, .undef, .undef, .undef, .undef, .undef, .undef, .undef, .undef, .undef, .undef, .undef, .undef, .undef, .undef, .undef, .undef, .undef, .undef, .undef, .undef, .undef, .undef, .undef, .undef, .undef, .undef, .undef, .undef, .undef, .undef, .undef, .undef, .undef, .undef, .undef, .undef, .undef, .undef, .undef, .undef, .undef, .undef, .undef, .undef, .undef, .undef, .undef, .undef, .undef, .undef, .undef, .undef, .undef, .undef, .undef, .undef, .undef, .undef, .undef], []⟩ = f5_e c7 c8 c9 (fun y0 => retF y0) n1 := by kernel_rfl

noncomputable def f5_N (k : Nat) (c7 : (Bool → R) → R) (c8 : (List Int) → (PV → Int → Int → R) → R) (c9 : PV → (PV → R) → R) (ret0 : Bool → R) (n1 : Int) : R :=
  f5_e c7 c8 c9 ret0 n1
theorem f5_eq (k : Nat) (c7 : (Bool → R) → R) (c8 : (List Int) → (PV → Int → Int → R) → R) (c9 : PV → (PV → R) → R) (retF : Bool → R) (n1 : Int) : exec (f5_E k c7 c8 c9) f5_code (endK (f5_E k c7 c8 c9) Try.f5 [] f5_un retF) ⟨[.int .u8 n1, .undef, .undef, .undef, .undef, .undef, .undef, .undef, .undef, .undef, .undef, .undef, .undef, .undef, .undef, .undef, .undef, .undef, .undef, .undef, .undef, .undef, .undef, .undef, .undef, .undef, .undef, .undef, .undef, .undef, .undef, .undef, .undef, .undef, .undef, .undef, .undef, .undef, .undef, .undef, .undef, .undef, .undef, .undef, .undef, .undef, .undef, .undef, .undef, .undef, .undef, .undef, .undef, .undef, .undef, .undef, .undef, .undef, .undef, .undef, .undef, .undef, .undef, .undef, .undef, .undef, .undef, .undef, .undef, .undef, .undef, .undef, .undef, .undef, .undef, .undef, .undef, .undef, .undef, .undef, .undef, .undef, .undef, .undef, .undef, .undef, .undef, .undef, .undef, .undef], []⟩ = f5_N k c7 c8 c9 (fun y0 => retF y0) n1 :=
  (f5_e_mem k c7 c8 c9 retF n1)

noncomputable def G5 : Nat → Int → (Bool → R) → R
  | 0, _, _ => none
  | k + 1, n1, ret0 => f5_N k (G7 k) (G8 k) (G9 k) ret0 n1
theorem S5 : ∀ k, Snd Try.prog 5 f5_I f5_O (fun x ret => G5 k x (fun y0 => ret y0))
  | 0 => snd_none
  | k + 1 => snd_step (E := f5_E k (G7 k) (G8 k) (G9 k)) rfl laidOut noNums (orc_ok (S7 k).o f7_D_ok (orc_ok (S8 k).o f8_D_ok (orc_ok (S9 k).o f9_D_ok orc0_ok))) (f := 5) (fn := Try.f5) (code := f5_code) Try.func5 (by kernel_rfl) (drawsOk_of laidOut (orc_ok (S7 k).o f7_D_ok (orc_ok (S8 k).o f8_D_ok (orc_ok (S9 k).o f9_D_ok orc0_ok))) mixed (by kernel_rfl)) f5_un f5_un_ok [] (fun _ => rfl)
      (fun x ret => f5_eq k (G7 k) (G8 k) (G9 k) ret x)

/- catchpole/catchpolelaw4.num -/
noncomputable def f14_I : Int → List SV × Obs := fun x => ([.int .u64 x], [])
noncomputable def f14_D : List SV → Obs → Option (Int)
  | [.int .u64 n1], [] => some n1
  | _, _ => none
theorem f14_D_ok (args : List SV) (B : Obs) (x : Int) (h : f14_D args B = some x) : f14_I x = (args, B) := by
  unfold f14_D at h
  split at h
  · injection h with h; subst h; rfl
  · cases h
noncomputable def f14_O : (List Int) → Out := (fun y => ([.str y], []))
noncomputable def f14_un : Out → Option ((List Int))
  | ([.str y0], []) => some y0
  | _ => none
theorem f14_un_ok (o : Out) (y : (List Int)) (h : f14_un o = some y) : o = f14_O y := by
  unfold f14_un at h
  split at h
  · injection h with h; subst h; rfl
  · cases h
noncomputable def f14_msk : Nat → Option (List Nat) := fun key =>  none
noncomputable def f14_C (c14 : Int → ((List Int) → R) → R) : Oracle := orc 14 f14_D f14_O (fun x ret => c14 x (fun y0 => ret y0)) <| orc0
noncomputable def f14_E (k : Nat) (c14 : Int → ((List Int) → R) → R) : Env := { P := Try.prog, nilOwn := fun d => false, fldOwn := fun d i => false, ownPar := ownPars, ownRet := false, mask := f14_msk, fuel := k, C := f14_C c14 }
noncomputable def f14_code : Code := Try.f14.body.getD .skip
noncomputable def f14_e (c14 : Int → ((List Int) → R) → R) (ret0 : (List Int) → R) (n1 : Int) : R :=
  bif (decide (n1 < (10 : Int))) then
    ret0 [(IntKind.wrap .u8 ((48 : Int) + (IntKind.wrap .u8 n1)))]
  else c14 (IntKind.wrap .u64 (Int.tdiv n1 10)) fun s2 =>
  bif (decide (List.length s2 + List.length [(IntKind.wrap .u8 ((48 : Int) + (IntKind.wrap .u8 (Int.tmod n1 10))))] ≤ 4611686018427387904)) then
    ret0 (s2 ++ [(IntKind.wrap .u8 ((48 : Int) + (IntKind.wrap .u8 (Int.tmod n1 10))))])
  else none

theorem f14_e_mem (k : Nat) (c14 : Int → ((List Int) → R) → R) (retF : (List Int) → R) (n1 : Int) : exec (f14_E k c14) f14_code (endK (f14_E k c14) Try.f14 [] f14_un retF) ⟨[.int .u64 n1, .undef, .undef, .undef, .undef, .undef, .undef, .undef, .undef, .undef, .undef, .undef, .undef, .undef, .undef, .undef, .undef, .undef, .undef, .undef], []⟩ = f14_e c14 (fun y0 => retF y0) n1 := by kernel_rfl

noncomputable def f14_N (k : Nat) (c14 : Int → ((List Int) → R) → R) (ret0 : (List Int) → R) (n1 : Int) : R :=
  f14_e c14 ret0 n1
theorem f14_eq (k : Nat) (c14 : Int → ((List Int) → R) → R) (retF : (List Int) → R) (n1 : Int) : exec (f14_E k c14) f14_code (endK (f14_E k c14) Try.f14 [] f14_un retF) ⟨[.int .u64 n1, .undef, .undef, .undef, .undef, .undef, .undef, .undef, .undef, .undef, .undef, .undef, .undef, .undef, .undef, .undef, .undef, .undef, .undef, .undef], []⟩ = f14_N k c14 (fun y0 => retF y0) n1 :=
  (f14_e_mem k c14 retF n1)

noncomputable def G14 : Nat → Int → ((List Int) → R) → R
  | 0, _, _ => none
  | k + 1, n1, ret0 => f14_N k (G14 k) ret0 n1
theorem S14 : ∀ k, Snd Try.prog 14 f14_I f14_O (fun x ret => G14 k x (fun y0 => ret y0))
  | 0 => snd_none
  | k + 1 => snd_step (E := f14_E k (G14 k)) rfl laidOut noNums (orc_ok (S14 k).o f14_D_ok orc0_ok) (f := 14) (fn := Try.f14) (code := f14_code) Try.func14 (by kernel_rfl) (drawsOk_of laidOut (orc_ok (S14 k).o f14_D_ok orc0_ok) mixed (by kernel_rfl)) f14_un f14_un_ok [] (fun _ => rfl)
      (fun x ret => f14_eq k (G14 k) ret x)

/- catchpole/catchpolelaw4.TokenCounts -/
noncomputable def f6_I : Int × Int → List SV × Obs := fun x => ([.int .u64 x.1, .int .u64 x.2], [])
noncomputable def f6_D : List SV → Obs → Option (Int × Int)
  | [.int .u64 n1, .int .u64 n2], [] => some (n1, n2)
  | _, _ => none
theorem f6_D_ok (args : List SV) (B : Obs) (x : Int × Int) (h : f6_D args B = some x) : f6_I x = (args, B) := by
  unfold f6_D at h
  split at h
  · injection h with h; subst h; rfl
  · cases h
noncomputable def f6_O : Bool → Out := (fun y => ([.bool y], []))
noncomputable def f6_un : Out → Option (Bool)
  | ([.bool y0], []) => some y0
  | _ => none
theorem f6_un_ok (o : Out) (y : Bool) (h : f6_un o = some y) : o = f6_O y := by
  unfold f6_un at h
  split at h
  · injection h with h; subst h; rfl
  · cases h
noncomputable def f6_msk : Nat → Option (List Nat) := fun key =>  none
noncomputable def f6_C (c7 : (Bool → R) → R) (c8 : (List Int) → (PV → Int → Int → R) → R) (c14 : Int → ((List Int) → R) → R) : Oracle := orc 7 f7_D f7_O (fun x ret => c7 (fun y0 => ret y0)) <| orc 8 f8_D f8_O (fun x ret => c8 x (fun y0 y1 y2 => ret (y0, y1, y2))) <| orc 14 f14_D f14_O (fun x ret => c14 x (fun y0 => ret y0)) <| orc0
noncomputable def f6_E (k : Nat) (c7 : (Bool → R) → R) (c8 : (List Int) → (PV → Int → Int → R) → R) (c14 : Int → ((List Int) → R) → R) : Env := { P := Try.prog, nilOwn := fun d => false, fldOwn := fun d i => false, ownPar := ownPars, ownRet := false, mask := f6_msk, fuel := k, C := f6_C c7 c8 c14 }
noncomputable def f6_code : Code := Try.f6.body.getD .skip
noncomputable def f6_e (c7 : (Bool → R) → R) (c8 : (List Int) → (PV → Int → Int → R) → R) (c14 : Int → ((List Int) → R) → R) (ret0 : Bool → R) (n1 : Int) (n2 : Int) : R :=
  c7 fun b3 =>
  bif (!b3) then
    ret0 false
  else bif ((decide ((2000 : Int) < n1)) == false) then
    bif (decide ((2000 : Int) < n2)) then
      ret0 true
    else c14 n1 fun s4 =>
    bif (decide (List.length [123] + List.length s4 ≤ 4611686018427387904)) then
      bif (decide (List.length ([123] ++ s4) + List.length [125] ≤ 4611686018427387904)) then
        c8 (([123] ++ s4) ++ [125]) fun p5 n6 n7 =>
        c14 n1 fun s8 =>
        bif (decide (List.length [123] + List.length s8 ≤ 4611686018427387904)) then
          bif (decide (List.length ([123] ++ s8) + List.length [44, 125] ≤ 4611686018427387904)) then
            c8 (([123] ++ s8) ++ [44, 125]) fun p9 n10 n11 =>
            c14 n1 fun s12 =>
            bif (decide (List.length [123] + List.length s12 ≤ 4611686018427387904)) then
              bif (decide (List.length ([123] ++ s12) + List.length [44] ≤ 4611686018427387904)) then
                c14 n2 fun s13 =>
                bif (decide (List.length (([123] ++ s12) ++ [44]) + List.length s13 ≤ 4611686018427387904)) then
                  bif (decide (List.length ((([123] ++ s12) ++ [44]) ++ s13) + List.length [125] ≤ 4611686018427387904)) then
                    c8 (((([123] ++ s12) ++ [44]) ++ s13) ++ [125]) fun p14 n15 n16 =>
                    bif (decide ((255 : Int) < n1)) then
                      bif ((decide (n7 = (4 : Int))) == true) then
                        bif ((decide (n11 = (4 : Int))) == true) then
                          bif ((decide (n16 = (4 : Int))) == true) then
                            bif ((decide (n6 = (0 : Int))) == true) then
                              bif ((decide (n10 = (0 : Int))) == true) then
                                ret0 (decide (n15 = (0 : Int)))
                              else ret0 false
                            else ret0 false
                          else ret0 false
                        else ret0 false
                      else ret0 false
                    else bif ((!(decide (n7 = (0 : Int)))) == false) then
                      bif ((!(decide (n11 = (0 : Int)))) == false) then
                        bif ((!(decide ((List.length (PV.els p5) : Int) = (1 : Int)))) == false) then
                          bif ((!(decide ((List.length (PV.els p9) : Int) = (1 : Int)))) == false) then
                            bif (true && decide ((0 : Int) ≤ (0 : Int)) && decide ((0 : Int) < (List.length (PV.els p5) : Int))) then
                              let b17 : Bool := (!(decide ((PV.num (PV.fld (List.getD (PV.els p5) ((0 : Int)).toNat PV.nil) 2)) = (IntKind.wrap .i64 n1))))
                              bif (b17 == false) then
                                bif (true && decide ((0 : Int) ≤ (0 : Int)) && decide ((0 : Int) < (List.length (PV.els p5) : Int))) then
                                  let b18 : Bool := (!(decide ((PV.num (PV.fld (List.getD (PV.els p5) ((0 : Int)).toNat PV.nil) 3)) = (IntKind.wrap .i64 n1))))
                                  bif (b18 == false) then
                                    bif (true && decide ((0 : Int) ≤ (0 : Int)) && decide ((0 : Int) < (List.length (PV.els p9) : Int))) then
                                      let b19 : Bool := (!(decide ((PV.num (PV.fld (List.getD (PV.els p9) ((0 : Int)).toNat PV.nil) 2)) = (IntKind.wrap .i64 n1))))
                                      bif (b19 == false) then
                                        bif (true && decide ((0 : Int) ≤ (0 : Int)) && decide ((0 : Int) < (List.length (PV.els p9) : Int))) then
                                          bif (!(decide ((PV.num (PV.fld (List.getD (PV.els p9) ((0 : Int)).toNat PV.nil) 3)) = (-1 : Int)))) then
                                            ret0 false
                                          else bif (decide ((255 : Int) < n2)) then
                                            ret0 (decide (n16 = (4 : Int)))
                                          else bif (decide (n2 < n1)) then
                                            ret0 (decide (n16 = (2 : Int)))
                                          else bif ((decide (n16 = (0 : Int))) == true) then
                                            bif ((decide ((List.length (PV.els p14) : Int) = (1 : Int))) == true) then
                                              bif (true && decide ((0 : Int) ≤ (0 : Int)) && decide ((0 : Int) < (List.length (PV.els p14) : Int))) then
                                                let b20 : Bool := (decide ((PV.num (PV.fld (List.getD (PV.els p14) ((0 : Int)).toNat PV.nil) 2)) = (IntKind.wrap .i64 n1)))
                                                bif (b20 == true) then
                                                  bif (true && decide ((0 : Int) ≤ (0 : Int)) && decide ((0 : Int) < (List.length (PV.els p14) : Int))) then
                                                    let b21 : Bool := (decide ((PV.num (PV.fld (List.getD (PV.els p14) ((0 : Int)).toNat PV.nil) 3)) = (IntKind.wrap .i64 n2)))
                                                    ret0 b21
                                                  else none
                                                else ret0 false
                                              else none
                                            else ret0 false
                                          else ret0 false
                                        else none
                                      else ret0 false
                                    else none
                                  else ret0 false
                                else none
                              else ret0 false
                            else none
                          else ret0 false
                        else ret0 false
                      else ret0 false
                    else ret0 false
                  else none
                else none
              else none
            else none
          else none
        else none
      else none
    else none
  else ret0 true

theorem f6_e_mem (k : Nat) (c7 : (Bool → R) → R) (c8 : (List Int) → (PV → Int → Int → R) → R) (c14 : Int → ((List Int) → R) → R) (retF : Bool → R) (n1 : Int) (n2 : Int) : exec (f6_E k c7 c8 c14) f6_code (endK (f6_E k c7 c8 c14) Try.f6 [] f6_un retF) ⟨[.int .u64 n1, .int .u64 n2, .undef, .undef, .undef, .undef, .undef, .undef, .undef, .undef, .undef, .undef, .undef, .undef, .undef, .undef, .undef, .undef, .undef, .undef, .undef, .undef, .undef, .undef, .undef, .undef, .undef, .undef, .undef, .undef, .undef, .undef, .undef, .undef, .undef, .undef, .undef, .undef, .undef, .undef, .undef, .undef, .undef, .undef, .undef, .undef, .undef, .undef, .undef, .undef, .undef, .undef, .undef, .undef, .undef, .undef, .undef, .undef, .undef, .undef, .undef, .undef, .undef, .undef, .undef, .undef, .undef, .undef, .undef, .undef, .undef, .undef, .undef, .undef, .undef, .undef, .undef, .undef, .undef, .undef, .undef, .undef, .undef, .undef, .undef, .undef, .undef, .undef, .undef, .undef, .undef, .undef, .undef, .undef, .undef, .undef, .undef, .undef, .undef, .undef, .undef, .undef, .undef, .undef, .undef, .undef, .undef, .undef, .undef, .undef, .undef, .undef, .undef, .undef, .undef, .undef, .undef, .undef, .undef, .undef, .undef, .undef, .undef, .undef, .undef, .undef, .undef, .undef, .undef, .undef, .undef, .undef, .undef, .undef, .undef, .undef, .undef, .undef, .undef, .undef, .undef, .undef, .undef, .undef, .undef, .undef, .undef, .undef, .undef, .undef, .undef, .undef, .undef, .undef, .undef, .undef, .undef, .undef, .undef, .undef, .undef, .undef, .undef], []⟩ = f6_e c7 c8 c14 (fun y0 => retF y0) n1 n2 := by kernel_rfl

noncomputable def f6_N (k : Nat) (c7 : (Bool → R) → R) (c8 : (List Int) → (PV → Int → Int → R) → R) (c14 : Int → ((List Int) → R) → R) (ret0 : Bool → R) (n1 : Int) (n2 : Int) : R :=
  f6_e c7 c8 c14 ret0 n1 n2
theorem f6_eq (k : Nat) (c7 : (Bool → R) → R) (c8 : (List Int) → (PV → Int → Int → R) → R) (c14 : Int → ((List Int) → R) → R) (retF : Bool → R) (n1 : Int) (n2 : Int) : exec (f6_E k c7 c8 c14) f6_code (endK (f6_E k c7 c8 c14) Try.f6 [] f6_un retF) ⟨[.int .u64 n1, .int .u64 n2, .undef, .undef, .undef, .undef, .undef, .undef, .undef, .undef, .undef, .undef, .undef, .undef, .undef, .undef, .undef, .undef, .undef, .undef, .undef, .undef, .undef, .undef, .undef, .undef, .undef, .undef, .undef, .undef, .undef, .undef, .undef, .undef, .undef, .undef, .undef, .undef, .undef, .undef, .undef, .undef, .undef, .undef, .undef, .undef, .undef, .undef, .undef, .undef, .undef, .undef, .undef, .undef, .undef, .undef, .undef, .undef, .undef, .undef, .undef, .undef, .undef, .undef, .undef, .undef, .undef, .undef, .undef, .undef, .undef, .undef, .undef, .undef, .undef, .undef, .undef, .undef, .undef, .undef, .undef, .undef, .undef, .undef, .undef, .undef, .undef, .undef, .undef, .undef, .undef, .undef, .undef, .undef, .undef, .undef, .undef, .undef, .undef, .undef, .undef, .undef, .undef, .undef, .undef, .undef, .undef, .undef, .undef, .undef, .undef, .undef, .undef, .undef, .undef, .undef, .undef, .undef, .undef, .undef, .undef, .undef, .undef, .undef, .undef, .undef, .undef, .undef, .undef, .undef, .undef, .undef, .undef, .undef, .undef, .undef, .undef, .undef, .undef, .undef, .undef, .undef, .undef, .undef, .undef, .undef, .undef, .undef, .undef, .undef, .undef, .undef, .undef, .undef, .undef, .undef, .undef, .undef, .undef, .undef, .undef, .undef, .undef], []⟩ = f6_N k c7 c8 c14 (fun y0 => retF y0) n1 n2 :=
  (f6_e_mem k c7 c8 c14 retF n1 n2)

noncomputable def G6 : Nat → Int → Int → (Bool → R) → R
  | 0, _, _, _ => none
  | k + 1, n1, n2, ret0 => f6_N k (G7 k) (G8 k) (G14 k) ret0 n1 n2
theorem S6 : ∀ k, Snd Try.prog 6 f6_I f6_O (fun x ret => G6 k x.1 x.2 (fun y0 => ret y0))
  | 0 => snd_none
  | k + 1 => snd_step (E := f6_E k (G7 k) (G8 k) (G14 k)) rfl laidOut noNums (orc_ok (S7 k).o f7_D_ok (orc_ok (S8 k).o f8_D_ok (orc_ok (S14 k).o f14_D_ok orc0_ok))) (f := 6) (fn := Try.f6) (code := f6_code) Try.func6 (by kernel_rfl) (drawsOk_of laidOut (orc_ok (S7 k).o f7_D_ok (orc_ok (S8 k).o f8_D_ok (orc_ok (S14 k).o f14_D_ok orc0_ok))) mixed (by kernel_rfl)) f6_un f6_un_ok [] (fun _ => rfl)
      (fun x ret => f6_eq k (G7 k) (G8 k) (G14 k) ret x.1 x.2)

/- catchpole/catchpolelaw4.TokenParts -/
noncomputable def f4_I : (List Int) × (List Int) → List SV × Obs := fun x => ([.str x.1, .str x.2], [])
noncomputable def f4_D : List SV → Obs → Option ((List Int) × (List Int))
  | [.str s1, .str s2], [] => some (s1, s2)
  | _, _ => none
theorem f4_D_ok (args : List SV) (B : Obs) (x : (List Int) × (List Int)) (h : f4_D args B = some x) : f4_I x = (args, B) := by
  unfold f4_D at h
  split at h
  · injection h with h; subst h; rfl
  · cases h
noncomputable def f4_O : Bool → Out := (fun y => ([.bool y], []))
noncomputable def f4_un : Out → Option (Bool)
  | ([.bool y0], []) => some y0
  | _ => none
theorem f4_un_ok (o : Out) (y : Bool) (h : f4_un o = some y) : o = f4_O y := by
  unfold f4_un at h
  split at h
  · injection h with h; subst h; rfl
  · cases h
noncomputable def f4_msk : Nat → Option (List Nat) := fun key => bif key == 39 then some [0, 5, 8, 11, 14] else none
noncomputable def f4_C (c7 : (Bool → R) → R) (c8 : (List Int) → (PV → Int → Int → R) → R) : Oracle := orc 7 f7_D f7_O (fun x ret => c7 (fun y0 => ret y0)) <| orc 8 f8_D f8_O (fun x ret => c8 x (fun y0 y1 y2 => ret (y0, y1, y2))) <| orc0
noncomputable def f4_E (k : Nat) (c7 : (Bool → R) → R) (c8 : (List Int) → (PV → Int → Int → R) → R) : Env := { P := Try.prog, nilOwn := fun d => false, fldOwn := fun d i => false, ownPar := ownPars, ownRet := false, mask := f4_msk, fuel := k, C := f4_C c7 c8 }
noncomputable def f4_code : Code := Try.f4.body.getD .skip
noncomputable def f4_cw1 : Code := subC f4_code [1, 1, 1, 1, 1, 1, 1, 1, 0, 1, 0, 0]
noncomputable def f4_hw1_0 (s1 : List Int) (p6 : PV) (p9 : PV) (p12 : PV) (n21 : Int) : St := ⟨[.str s1, .dead, .dead, .dead, .dead, .val 27 p6, .dead, .dead, .val 27 p9, .dead, .dead, .val 27 p12, .dead, .dead, .int .i64 n21, .dead, .dead, .dead, .dead, .dead, .dead, .dead, .dead, .dead, .dead, .dead, .dead, .dead, .dead, .dead, .dead, .dead, .dead, .dead, .dead, .dead, .dead, .dead, .dead, .dead, .dead, .dead, .dead, .dead, .dead, .dead, .dead, .dead, .dead, .dead, .dead, .dead, .dead, .dead, .dead, .dead, .dead, .dead, .dead, .dead, .dead, .dead, .dead, .dead, .dead, .dead, .dead, .dead, .dead, .dead, .dead, .dead, .dead, .dead, .dead, .dead, .dead, .dead, .dead, .dead, .dead, .dead, .dead, .dead, .dead, .dead, .dead, .dead, .dead, .dead, .dead, .dead, .dead, .dead, .dead, .dead, .dead, .dead, .dead, .dead, .dead, .dead, .dead, .dead, .dead, .dead, .dead, .dead, .dead, .dead, .dead, .dead, .dead, .dead, .dead, .dead, .dead, .dead, .dead, .dead, .dead, .dead, .dead, .dead, .dead, .dead, .dead, .dead, .dead, .dead, .dead, .dead, .dead, .dead], []⟩
noncomputable def f4_w1A (k : Nat) (c7 : (Bool → R) → R) (c8 : (List Int) → (PV → Int → Int → R) → R) (retF : Bool → R) (s1 : List Int) (p6 : PV) (p9 : PV) (p12 : PV) (n21 : Int) : R := loopM (f4_E k c7 c8) f4_cw1 (kont (f4_E k c7 c8) f4_code [1, 1, 1, 1, 1, 1, 1, 1, 0, 1, 0] (endK (f4_E k c7 c8) Try.f4 [] f4_un retF)) k (f4_hw1_0 s1 p6 p9 p12 n21)
noncomputable def f4_w1b0 (c7 : (Bool → R) → R) (c8 : (List Int) → (PV → Int → Int → R) → R) (ret0 : Bool → R) (next_w1_0 : Int → R) (s1 : List Int) (p6 : PV) (p9 : PV) (p12 : PV) (n21 : Int) : R :=
  bif (decide (n21 < (List.length (PV.els p12) : Int))) then
    bif ((decide (n21 < (List.length (PV.els p6) : Int))) == true) then
      bif (true && decide ((0 : Int) ≤ n21) && decide (n21 < (List.length (PV.els p12) : Int))) then
        bif (true && decide ((0 : Int) ≤ n21) && decide (n21 < (List.length (PV.els p6) : Int))) then
          bif (!(PV.beq (List.getD (PV.els p12) (n21).toNat PV.nil) (List.getD (PV.els p6) (n21).toNat PV.nil))) then
            ret0 false
          else bif (decide ((List.length (PV.els p6) : Int) ≤ n21)) then
            bif (true && decide ((0 : Int) ≤ (IntKind.wrap .i64 (n21 - (List.length (PV.els p6) : Int)))) && decide ((IntKind.wrap .i64 (n21 - (List.length (PV.els p6) : Int))) < (List.length (PV.els p9) : Int))) then
              let n22 : Int := (PV.num (PV.fld (List.getD (PV.els p9) ((IntKind.wrap .i64 (n21 - (List.length (PV.els p6) : Int)))).toNat PV.nil) 4))
              let p23 : PV := (PV.agg (List.set (PV.flds (List.getD (PV.els p9) ((IntKind.wrap .i64 (n21 - (List.length (PV.els p6) : Int)))).toNat PV.nil)) 4 (PV.int (IntKind.wrap .i64 (n22 + (List.length s1 : Int))))))
              bif (true && decide ((0 : Int) ≤ n21) && decide (n21 < (List.length (PV.els p12) : Int))) then
                bif (!(PV.beq (List.getD (PV.els p12) (n21).toNat PV.nil) p23)) then
                  ret0 false
                else next_w1_0 (IntKind.wrap .i64 (n21 + (1 : Int)))
              else none
            else none
          else next_w1_0 (IntKind.wrap .i64 (n21 + (1 : Int)))
        else none
      else none
    else bif (decide ((List.length (PV.els p6) : Int) ≤ n21)) then
      bif (true && decide ((0 : Int) ≤ (IntKind.wrap .i64 (n21 - (List.length (PV.els p6) : Int)))) && decide ((IntKind.wrap .i64 (n21 - (List.length (PV.els p6) : Int))) < (List.length (PV.els p9) : Int))) then
        let n24 : Int := (PV.num (PV.fld (List.getD (PV.els p9) ((IntKind.wrap .i64 (n21 - (List.length (PV.els p6) : Int)))).toNat PV.nil) 4))
        let p25 : PV := (PV.agg (List.set (PV.flds (List.getD (PV.els p9) ((IntKind.wrap .i64 (n21 - (List.length (PV.els p6) : Int)))).toNat PV.nil)) 4 (PV.int (IntKind.wrap .i64 (n24 + (List.length s1 : Int))))))
        bif (true && decide ((0 : Int) ≤ n21) && decide (n21 < (List.length (PV.els p12) : Int))) then
          bif (!(PV.beq (List.getD (PV.els p12) (n21).toNat PV.nil) p25)) then
            ret0 false
          else next_w1_0 (IntKind.wrap .i64 (n21 + (1 : Int)))
        else none
      else none
    else next_w1_0 (IntKind.wrap .i64 (n21 + (1 : Int)))
  else ret0 true

theorem f4_w1b0_mem (k : Nat) (c7 : (Bool → R) → R) (c8 : (List Int) → (PV → Int → Int → R) → R) (retF : Bool → R) (NX_w1 : St → R) (s1 : List Int) (p6 : PV) (p9 : PV) (p12 : PV) (n21 : Int) : exec (f4_E k c7 c8) f4_cw1 (purgeK (f4_E k c7 c8) f4_cw1 (loopK NX_w1 (kont (f4_E k c7 c8) f4_code [1, 1, 1, 1, 1, 1, 1, 1, 0, 1, 0] (endK (f4_E k c7 c8) Try.f4 [] f4_un retF)))) (f4_hw1_0 s1 p6 p9 p12 n21) = f4_w1b0 c7 c8 (fun y0 => retF y0) (fun n21 => NX_w1 (f4_hw1_0 s1 p6 p9 p12 n21)) s1 p6 p9 p12 n21 := by kernel_rfl

noncomputable def f4_w1b0N (k : Nat) (c7 : (Bool → R) → R) (c8 : (List Int) → (PV → Int → Int → R) → R) (ret0 : Bool → R) (next_w1_0 : Int → R) (s1 : List Int) (p6 : PV) (p9 : PV) (p12 : PV) (n21 : Int) : R :=
  f4_w1b0 c7 c8 ret0 next_w1_0 s1 p6 p9 p12 n21
theorem f4_w1b0_eq (k : Nat) (c7 : (Bool → R) → R) (c8 : (List Int) → (PV → Int → Int → R) → R) (retF : Bool → R) (NX_w1 : St → R) (s1 : List Int) (p6 : PV) (p9 : PV) (p12 : PV) (n21 : Int) : exec (f4_E k c7 c8) f4_cw1 (purgeK (f4_E k c7 c8) f4_cw1 (loopK NX_w1 (kont (f4_E k c7 c8) f4_code [1, 1, 1, 1, 1, 1, 1, 1, 0, 1, 0] (endK (f4_E k c7 c8) Try.f4 [] f4_un retF)))) (f4_hw1_0 s1 p6 p9 p12 n21) = f4_w1b0N k c7 c8 (fun y0 => retF y0) (fun n21 => NX_w1 (f4_hw1_0 s1 p6 p9 p12 n21)) s1 p6 p9 p12 n21 :=
  (f4_w1b0_mem k c7 c8 retF NX_w1 s1 p6 p9 p12 n21)

noncomputable def f4_w1B (k : Nat) (c7 : (Bool → R) → R) (c8 : (List Int) → (PV → Int → Int → R) → R) (ret0 : Bool → R) (s1 : List Int) (p6 : PV) (p9 : PV) (p12 : PV) (nx : Int → R) : Int → R := (fun s => f4_w1b0N k c7 c8 ret0 (fun n21 => nx n21) s1 p6 p9 p12 s)
noncomputable def f4_w1N (k : Nat) (c7 : (Bool → R) → R) (c8 : (List Int) → (PV → Int → Int → R) → R) (ret0 : Bool → R) (s1 : List Int) (p6 : PV) (p9 : PV) (p12 : PV) (n21 : Int) : R := loopR (f4_w1B k c7 c8 ret0 s1 p6 p9 p12) k n21
theorem f4_w1_eq (k : Nat) (c7 : (Bool → R) → R) (c8 : (List Int) → (PV → Int → Int → R) → R) (retF : Bool → R) (s1 : List Int) (p6 : PV) (p9 : PV) (p12 : PV) (n21 : Int) : f4_w1A k c7 c8 retF s1 p6 p9 p12 n21 = f4_w1N k c7 c8 (fun y0 => retF y0) s1 p6 p9 p12 n21 :=
  Eq.mp (by kernel_rfl) (loop_sim (E := (f4_E k c7 c8)) (c := f4_cw1) (K := (kont (f4_E k c7 c8) f4_code [1, 1, 1, 1, 1, 1, 1, 1, 0, 1, 0] (endK (f4_E k c7 c8) Try.f4 [] f4_un retF))) (S := Int) (fun s => f4_hw1_0 s1 p6 p9 p12 s) (f4_w1B k c7 c8 (fun y0 => retF y0) s1 p6 p9 p12) (fun NX s => by
    exact Eq.mp (by kernel_rfl) (f4_w1b0_eq k c7 c8 retF NX s1 p6 p9 p12 s)) k n21)

noncomputable def f4_e (c7 : (Bool → R) → R) (c8 : (List Int) → (PV → Int → Int → R) → R) (ret0 : Bool → R) (w1 : PV → PV → PV → Int → R) (s1 : List Int) (s2 : List Int) : R :=
  c7 fun b3 =>
  bif (!b3) then
    ret0 false
  else bif ((decide ((300 : Int) < (List.length s1 : Int))) == false) then
    bif ((decide ((300 : Int) < (List.length s2 : Int))) == false) then
      bif ((decide ((0 : Int) < (List.length s1 : Int))) == true) then
        bif (decide ((0 : Int) ≤ (IntKind.wrap .i64 ((List.length s1 : Int) - (1 : Int)))) && decide ((IntKind.wrap .i64 ((List.length s1 : Int) - (1 : Int))) < (List.length s1 : Int))) then
          let b4 : Bool := (decide ((List.getD s1 ((IntKind.wrap .i64 ((List.length s1 : Int) - (1 : Int)))).toNat 0) = (40 : Int)))
          bif (b4 == false) then
            bif ((decide ((1 : Int) < (List.length s1 : Int))) == true) then
              bif (decide ((0 : Int) ≤ (IntKind.wrap .i64 ((List.length s1 : Int) - (2 : Int)))) && decide ((IntKind.wrap .i64 ((List.length s1 : Int) - (2 : Int))) ≤ (List.length s1 : Int)) && decide ((List.length s1 : Int) ≤ (List.length s1 : Int))) then
                let s5 : List Int := (List.drop ((IntKind.wrap .i64 ((List.length s1 : Int) - (2 : Int)))).toNat (List.take ((List.length s1 : Int)).toNat s1))
                bif (decide ((s5 : List Int) = [40, 63])) then
                  ret0 true
                else c8 s1 fun p6 n7 n8 =>
                c8 s2 fun p9 n10 n11 =>
                bif ((!(decide (n8 = (0 : Int)))) == false) then
                  bif (!(decide (n11 = (0 : Int)))) then
                    ret0 true
                  else bif (decide (List.length s1 + List.length s2 ≤ 4611686018427387904)) then
                    c8 (s1 ++ s2) fun p12 n13 n14 =>
                    bif ((!(decide (n14 = (0 : Int)))) == false) then
                      let b15 : Bool := (!(decide ((List.length (PV.els p12) : Int) = (IntKind.wrap .i64 ((List.length (PV.els p6) : Int) + (List.length (PV.els p9) : Int))))))
                      bif b15 then
                        ret0 false
                      else w1 p6 p9 p12 0
                    else ret0 false
                  else none
                else ret0 true
              else none
            else c8 s1 fun p26 n27 n28 =>
            c8 s2 fun p29 n30 n31 =>
            bif ((!(decide (n28 = (0 : Int)))) == false) then
              bif (!(decide (n31 = (0 : Int)))) then
                ret0 true
              else bif (decide (List.length s1 + List.length s2 ≤ 4611686018427387904)) then
                c8 (s1 ++ s2) fun p32 n33 n34 =>
                bif ((!(decide (n34 = (0 : Int)))) == false) then
                  let b35 : Bool := (!(decide ((List.length (PV.els p32) : Int) = (IntKind.wrap .i64 ((List.length (PV.els p26) : Int) + (List.length (PV.els p29) : Int))))))
                  bif b35 then
                    ret0 false
                  else w1 p26 p29 p32 0
                else ret0 false
              else none
            else ret0 true
          else ret0 true
        else none
      else bif ((decide ((1 : Int) < (List.length s1 : Int))) == true) then
        bif (decide ((0 : Int) ≤ (IntKind.wrap .i64 ((List.length s1 : Int) - (2 : Int)))) && decide ((IntKind.wrap .i64 ((List.length s1 : Int) - (2 : Int))) ≤ (List.length s1 : Int)) && decide ((List.length s1 : Int) ≤ (List.length s1 : Int))) then
          let s46 : List Int := (List.drop ((IntKind.wrap .i64 ((List.length s1 : Int) - (2 : Int)))).toNat (List.take ((List.length s1 : Int)).toNat s1))
          bif (decide ((s46 : List Int) = [40, 63])) then
            ret0 true
          else c8 s1 fun p47 n48 n49 =>
          c8 s2 fun p50 n51 n52 =>
          bif ((!(decide (n49 = (0 : Int)))) == false) then
            bif (!(decide (n52 = (0 : Int)))) then
              ret0 true
            else bif (decide (List.length s1 + List.length s2 ≤ 4611686018427387904)) then
              c8 (s1 ++ s2) fun p53 n54 n55 =>
              bif ((!(decide (n55 = (0 : Int)))) == false) then
                let b56 : Bool := (!(decide ((List.length (PV.els p53) : Int) = (IntKind.wrap .i64 ((List.length (PV.els p47) : Int) + (List.length (PV.els p50) : Int))))))
                bif b56 then
                  ret0 false
                else w1 p47 p50 p53 0
              else ret0 false
            else none
          else ret0 true
        else none
      else c8 s1 fun p67 n68 n69 =>
      c8 s2 fun p70 n71 n72 =>
      bif ((!(decide (n69 = (0 : Int)))) == false) then
        bif (!(decide (n72 = (0 : Int)))) then
          ret0 true
        else bif (decide (List.length s1 + List.length s2 ≤ 4611686018427387904)) then
          c8 (s1 ++ s2) fun p73 n74 n75 =>
          bif ((!(decide (n75 = (0 : Int)))) == false) then
            let b76 : Bool := (!(decide ((List.length (PV.els p73) : Int) = (IntKind.wrap .i64 ((List.length (PV.els p67) : Int) + (List.length (PV.els p70) : Int))))))
            bif b76 then
              ret0 false
            else w1 p67 p70 p73 0
          else ret0 false
        else none
      else ret0 true
    else ret0 true
  else ret0 true

theorem f4_e_mem (k : Nat) (c7 : (Bool → R) → R) (c8 : (List Int) → (PV → Int → Int → R) → R) (retF : Bool → R) (s1 : List Int) (s2 : List Int) : exec (f4_E k c7 c8) f4_code (endK (f4_E k c7 c8) Try.f4 [] f4_un retF) ⟨[.str s1, .str s2, .undef, .undef, .undef, .undef, .undef, .undef, .undef, .undef, .undef, .undef, .undef, .undef, .undef, .undef, .undef, .undef, .undef, .undef, .undef, .undef, .undef, .undef, .undef, .undef, .undef, .undef, .undef, .undef, .undef, .undef, .undef, .undef, .undef, .undef, .undef, .undef, .undef, .undef, .undef, .undef, .undef, .undef, .undef, .undef, .undef, .undef, .undef, .undef, .undef, .undef, .undef, .undef, .undef, .undef, .undef, .undef, .undef, .undef, .undef, .undef, .undef, .undef, .undef, .undef, .undef, .undef, .undef, .undef, .undef, .undef, .undef, .undef, .undef, .undef, .undef, .undef, .undef, .undef, .undef, .undef, .undef, .undef, .undef, .undef, .undef, .undef, .undef, .undef, .undef, .undef, .undef, .undef, .undef, .undef, .undef, .undef, .undef, .undef, .undef, .undef, .undef, .undef, .undef, .undef, .undef, .undef, .undef, .undef, .undef, .undef, .undef, .undef, .undef, .undef, .undef, .undef, .undef, .undef, .undef, .undef, .undef, .undef, .undef, .undef, .undef, .undef, .undef, .undef, .undef, .undef, .undef, .undef], []⟩ = f4_e c7 c8 (fun y0 => retF y0) (fun p6 p9 p12 n21 => f4_w1A k c7 c8 retF s1 p6 p9 p12 n21) s1 s2 := by kernel_rfl

noncomputable def f4_N (k : Nat) (c7 : (Bool → R) → R) (c8 : (List Int) → (PV → Int → Int → R) → R) (ret0 : Bool → R) (s1 : List Int) (s2 : List Int) : R :=
  f4_e c7 c8 ret0 (fun p6 p9 p12 n21 => f4_w1N k c7 c8 ret0 s1 p6 p9 p12 n21) s1 s2
theorem f4_eq (k : Nat) (c7 : (Bool → R) → R) (c8 : (List Int) → (PV → Int → Int → R) → R) (retF : Bool → R) (s1 : List Int) (s2 : List Int) : exec (f4_E k c7 c8) f4_code (endK (f4_E k c7 c8) Try.f4 [] f4_un retF) ⟨[.str s1, .str s2, .undef, .undef, .undef, .undef, .undef, .undef, .undef, .undef, .undef, .undef, .undef, .undef, .undef, .undef, .undef, .undef, .undef, .undef, .undef, .undef, .undef, .undef, .undef, .undef, .undef, .undef, .undef, .undef, .undef, .undef, .undef, .undef, .undef, .undef, .undef, .undef, .undef, .undef, .undef, .undef, .undef, .undef, .undef, .undef, .undef, .undef, .undef, .undef, .undef, .undef, .undef, .undef, .undef, .undef, .undef, .undef, .undef, .undef, .undef, .undef, .undef, .undef, .undef, .undef, .undef, .undef, .undef, .undef, .undef, .undef, .undef, .undef, .undef, .undef, .undef, .undef, .undef, .undef, .undef, .undef, .undef, .undef, .undef, .undef, .undef, .undef, .undef, .undef, .undef, .undef, .undef, .undef, .undef, .undef, .undef, .undef, .undef, .undef, .undef, .undef, .undef, .undef, .undef, .undef, .undef, .undef, .undef, .undef, .undef, .undef, .undef, .undef, .undef, .undef, .undef, .undef, .undef, .undef, .undef, .undef, .undef, .undef, .undef, .undef, .undef, .undef, .undef, .undef, .undef, .undef, .undef, .undef], []⟩ = f4_N k c7 c8 (fun y0 => retF y0) s1 s2 :=
  (f4_e_mem k c7 c8 retF s1 s2).trans (by rw [show (fun p6 p9 p12 n21 => f4_w1A k c7 c8 retF s1 p6 p9 p12 n21) = (fun p6 p9 p12 n21 => f4_w1N k c7 c8 (fun y0 => retF y0) s1 p6 p9 p12 n21) from funext fun p6 => funext fun p9 => funext fun p12 => funext fun n21 => f4_w1_eq k c7 c8 retF s1 p6 p9 p12 n21]; rfl)

noncomputable def G4 : Nat → (List Int) → (List Int) → (Bool → R) → R
  | 0, _, _, _ => none
  | k + 1, s1, s2, ret0 => f4_N k (G7 k) (G8 k) ret0 s1 s2
theorem S4 : ∀ k, Snd Try.prog 4 f4_I f4_O (fun x ret => G4 k x.1 x.2 (fun y0 => ret y0))
  | 0 => snd_none
  | k + 1 => snd_step (E := f4_E k (G7 k) (G8 k)) rfl laidOut noNums (orc_ok (S7 k).o f7_D_ok (orc_ok (S8 k).o f8_D_ok orc0_ok)) (f := 4) (fn := Try.f4) (code := f4_code) Try.func4 (by kernel_rfl) (drawsOk_of laidOut (orc_ok (S7 k).o f7_D_ok (orc_ok (S8 k).o f8_D_ok orc0_ok)) mixed (by kernel_rfl)) f4_un f4_un_ok [] (fun _ => rfl)
      (fun x ret => f4_eq k (G7 k) (G8 k) ret x.1 x.2)

end Go.Proofs.Ytoefnbinfmbckaa
