/- Functions of the program as Lean functions, each tied to the program by the kernel: catchpolelaw1.BytesetRuns, catchpolelaw1.BytesetList, catchpolelaw1.BytesetKnown, catchpolelaw1.BytesetLaws, catchpolelaw1.BytesetSays, catchpolelaw2.ClassSays -/
import Derived.Test.YtifnlmfhbepjcaaF
set_option linter.unusedVariables false
set_option maxRecDepth 100000
namespace Go.Proofs.Ytifnlmfhbepjcaa
open Go Go.X
/- catchpole/catchpoleref1.Named -/
noncomputable def f39_I : (List Int) → List SV × Obs := fun x => ([.str x], [])
noncomputable def f39_D : List SV → Obs → Option ((List Int))
  | [.str s1], [] => some s1
  | _, _ => none
theorem f39_D_ok (args : List SV) (B : Obs) (x : (List Int)) (h : f39_D args B = some x) : f39_I x = (args, B) := by
  unfold f39_D at h
  split at h
  · injection h with h; subst h; rfl
  · cases h
noncomputable def f39_O : PV × Bool → Out := (fun y => ([.val 45 y.1, .bool y.2], []))
noncomputable def f39_un : Out → Option (PV × Bool)
  | ([.val 45 y0, .bool y1], []) => some (y0, y1)
  | _ => none
theorem f39_un_ok (o : Out) (y : PV × Bool) (h : f39_un o = some y) : o = f39_O y := by
  unfold f39_un at h
  split at h
  · injection h with h; subst h; rfl
  · cases h
noncomputable def f39_msk : Nat → Option (List Nat) := fun key =>  none
noncomputable def f39_C (c29 : PV → (PV → R) → R) (c30 : Int → Int → (PV → R) → R) (c31 : PV → PV → (PV → R) → R) (c32 : PV → PV → (PV → R) → R) (c33 : PV → (PV → R) → R) : Oracle := orc 29 f29_D f29_O (fun x ret => c29 x (fun y0 => ret y0)) <| orc 30 f30_D f30_O (fun x ret => c30 x.1 x.2 (fun y0 => ret y0)) <| orc 31 f31_D f31_O (fun x ret => c31 x.1 x.2 (fun y0 => ret y0)) <| orc 32 f32_D f32_O (fun x ret => c32 x.1 x.2 (fun y0 => ret y0)) <| orc 33 f33_D f33_O (fun x ret => c33 x (fun y0 => ret y0)) <| orc0
noncomputable def f39_E (k : Nat) (c29 : PV → (PV → R) → R) (c30 : Int → Int → (PV → R) → R) (c31 : PV → PV → (PV → R) → R) (c32 : PV → PV → (PV → R) → R) (c33 : PV → (PV → R) → R) : Env := { P := Try.prog, nilOwn := fun d => false, fldOwn := fun d i => false, ownPar := ownPars, ownRet := false, mask := f39_msk, fuel := k, C := f39_C c29 c30 c31 c32 c33 }
noncomputable def f39_code : Code := Try.f39.body.getD .skip
noncomputable def f39_e (c29 : PV → (PV → R) → R) (c30 : Int → Int → (PV → R) → R) (c31 : PV → PV → (PV → R) → R) (c32 : PV → PV → (PV → R) → R) (c33 : PV → (PV → R) → R) (ret0 : PV → Bool → R) (s1 : List Int) : R :=
  c30 65 90 fun p2 =>
  c30 97 122 fun p3 =>
  c30 48 57 fun p4 =>
  c31 p2 p3 fun p5 =>
  c31 p5 p4 fun p6 =>
  bif (decide ((s1 : List Int) = [117, 112, 112, 101, 114])) then
    ret0 p2 true
  else bif (decide ((s1 : List Int) = [108, 111, 119, 101, 114])) then
    ret0 p3 true
  else bif (decide ((s1 : List Int) = [97, 108, 112, 104, 97])) then
    c31 p2 p3 fun p7 =>
    ret0 p7 true
  else bif (decide ((s1 : List Int) = [100, 105, 103, 105, 116])) then
    ret0 p4 true
  else bif (decide ((s1 : List Int) = [97, 108, 110, 117, 109])) then
    ret0 p6 true
  else bif (decide ((s1 : List Int) = [120, 100, 105, 103, 105, 116])) then
    c30 65 70 fun p8 =>
    c30 97 102 fun p9 =>
    c31 p8 p9 fun p10 =>
    c31 p4 p10 fun p11 =>
    ret0 p11 true
  else bif (decide ((s1 : List Int) = [98, 108, 97, 110, 107])) then
    c29 (PV.list [(PV.int 32), (PV.int 9)]) fun p12 =>
    ret0 p12 true
  else bif (decide ((s1 : List Int) = [115, 112, 97, 99, 101])) then
    c29 (PV.list [(PV.int 32)]) fun p13 =>
    c30 9 13 fun p14 =>
    c31 p13 p14 fun p15 =>
    ret0 p15 true
  else bif (decide ((s1 : List Int) = [99, 110, 116, 114, 108])) then
    c30 0 31 fun p16 =>
    c29 (PV.list [(PV.int 127)]) fun p17 =>
    c31 p16 p17 fun p18 =>
    ret0 p18 true
  else bif (decide ((s1 : List Int) = [112, 117, 110, 99, 116])) then
    c30 33 126 fun p19 =>
    c33 p6 fun p20 =>
    c32 p19 p20 fun p21 =>
    ret0 p21 true
  else bif (decide ((s1 : List Int) = [103, 114, 97, 112, 104])) then
    c30 33 126 fun p22 =>
    ret0 p22 true
  else bif (decide ((s1 : List Int) = [112, 114, 105, 110, 116])) then
    c30 32 126 fun p23 =>
    ret0 p23 true
  else ret0 (PV.agg (List.replicate 256 (PV.bool false))) false

theorem f39_e_mem (k : Nat) (c29 : PV → (PV → R) → R) (c30 : Int → Int → (PV → R) → R) (c31 : PV → PV → (PV → R) → R) (c32 : PV → PV → (PV → R) → R) (c33 : PV → (PV → R) → R) (retF : PV × Bool → R) (s1 : List Int) : exec (f39_E k c29 c30 c31 c32 c33) f39_code (endK (f39_E k c29 c30 c31 c32 c33) Try.f39 [] f39_un retF) ⟨[.str s1, .undef, .undef, .undef, .undef, .undef, .undef, .undef, .undef, .undef, .undef, .undef, .undef, .undef, .undef, .undef, .undef, .undef, .undef, .undef, .undef, .undef, .undef, .undef, .undef, .undef, .undef, .undef, .undef, .undef, .undef, .undef, .undef, .undef, .undef, .undef, .undef, .undef, .undef, .undef, .undef, .undef, .undef, .undef, .undef, .undef, .undef, .undef, .undef, .undef, .undef, .undef, .undef, .undef, .undef, .undef, .undef, .undef, .undef, .undef, .undef, .undef, .undef, .undef, .undef, .undef, .undef, .undef, .undef, .undef], []⟩ = f39_e c29 c30 c31 c32 c33 (fun y0 y1 => retF (y0, y1)) s1 := by kernel_rfl

noncomputable def f39_N (k : Nat) (c29 : PV → (PV → R) → R) (c30 : Int → Int → (PV → R) → R) (c31 : PV → PV → (PV → R) → R) (c32 : PV → PV → (PV → R) → R) (c33 : PV → (PV → R) → R) (ret0 : PV → Bool → R) (s1 : List Int) : R :=
  f39_e c29 c30 c31 c32 c33 ret0 s1
theorem f39_eq (k : Nat) (c29 : PV → (PV → R) → R) (c30 : Int → Int → (PV → R) → R) (c31 : PV → PV → (PV → R) → R) (c32 : PV → PV → (PV → R) → R) (c33 : PV → (PV → R) → R) (retF : PV × Bool → R) (s1 : List Int) : exec (f39_E k c29 c30 c31 c32 c33) f39_code (endK (f39_E k c29 c30 c31 c32 c33) Try.f39 [] f39_un retF) ⟨[.str s1, .undef, .undef, .undef, .undef, .undef, .undef, .undef, .undef, .undef, .undef, .undef, .undef, .undef, .undef, .undef, .undef, .undef, .undef, .undef, .undef, .undef, .undef, .undef, .undef, .undef, .undef, .undef, .undef, .undef, .undef, .undef, .undef, .undef, .undef, .undef, .undef, .undef, .undef, .undef, .undef, .undef, .undef, .undef, .undef, .undef, .undef, .undef, .undef, .undef, .undef, .undef, .undef, .undef, .undef, .undef, .undef, .undef, .undef, .undef, .undef, .undef, .undef, .undef, .undef, .undef, .undef, .undef, .undef, .undef], []⟩ = f39_N k c29 c30 c31 c32 c33 (fun y0 y1 => retF (y0, y1)) s1 :=
  (f39_e_mem k c29 c30 c31 c32 c33 retF s1)

noncomputable def G39 : Nat → (List Int) → (PV → Bool → R) → R
  | 0, _, _ => none
  | k + 1, s1, ret0 => f39_N k (G29 k) (G30 k) (G31 k) (G32 k) (G33 k) ret0 s1
theorem S39 : ∀ k, Snd Try.prog 39 f39_I f39_O (fun x ret => G39 k x (fun y0 y1 => ret (y0, y1)))
  | 0 => snd_none
  | k + 1 => snd_step (E := f39_E k (G29 k) (G30 k) (G31 k) (G32 k) (G33 k)) rfl laidOut noNums (orc_ok (S29 k).o f29_D_ok (orc_ok (S30 k).o f30_D_ok (orc_ok (S31 k).o f31_D_ok (orc_ok (S32 k).o f32_D_ok (orc_ok (S33 k).o f33_D_ok orc0_ok))))) (f := 39) (fn := Try.f39) (code := f39_code) Try.func39 (by kernel_rfl) (drawsOk_of laidOut (orc_ok (S29 k).o f29_D_ok (orc_ok (S30 k).o f30_D_ok (orc_ok (S31 k).o f31_D_ok (orc_ok (S32 k).o f32_D_ok (orc_ok (S33 k).o f33_D_ok orc0_ok))))) mixed (by kernel_rfl)) f39_un f39_un_ok [] (fun _ => rfl)
      (fun x ret => f39_eq k (G29 k) (G30 k) (G31 k) (G32 k) (G33 k) ret x)

/- catchpole/class.Whole$1 -/
noncomputable def f70_I : PV × PV → List SV × Obs := fun x => ([.val 24 x.1, .ptr 4000000 []], [(4000000, .box 24 (.val 24 x.2))])
noncomputable def f70_D : List SV → Obs → Option (PV × PV)
  | [.val 24 p1, .ptr 4000000 []], [(4000000, .box 24 (.val 24 p2))] => some (p1, p2)
  | _, _ => none
theorem f70_D_ok (args : List SV) (B : Obs) (x : PV × PV) (h : f70_D args B = some x) : f70_I x = (args, B) := by
  unfold f70_D at h
  split at h
  · injection h with h; subst h; rfl
  · cases h
noncomputable def f70_O : Bool × PV → Out := (fun y => ([.bool y.1], [(4000000, .box 24 (.val 24 y.2))]))
noncomputable def f70_un : Out → Option (Bool × PV)
  | ([.bool y0], [(4000000, .box 24 (.val 24 y1))]) => some (y0, y1)
  | _ => none
theorem f70_un_ok (o : Out) (y : Bool × PV) (h : f70_un o = some y) : o = f70_O y := by
  unfold f70_un at h
  split at h
  · injection h with h; subst h; rfl
  · cases h
noncomputable def f70_msk : Nat → Option (List Nat) := fun key =>  none
noncomputable def f70_C : Oracle := orc0
noncomputable def f70_E (k : Nat) : Env := { P := Try.prog, nilOwn := fun d => false, fldOwn := fun d i => false, ownPar := ownPars, ownRet := false, mask := f70_msk, fuel := k, C := f70_C }
noncomputable def f70_code : Code := Try.f70.body.getD .skip
noncomputable def f70_e (ret0 : Bool → PV → R) (p1 : PV) (p2 : PV) : R :=
  ret0 (PV.beq p1 p2) p2

theorem f70_e_mem (k : Nat) (retF : Bool × PV → R) (p1 : PV) (p2 : PV) : exec (f70_E k) f70_code (endK (f70_E k) Try.f70 [4000000] f70_un retF) ⟨[.val 24 p1, .ptr 4000000 [], .undef, .undef, .undef, .undef, .undef], [(4000000, .box 24 (.val 24 p2))]⟩ = f70_e (fun y0 y1 => retF (y0, y1)) p1 p2 := by kernel_rfl

noncomputable def f70_N (k : Nat) (ret0 : Bool → PV → R) (p1 : PV) (p2 : PV) : R :=
  f70_e ret0 p1 p2
theorem f70_eq (k : Nat) (retF : Bool × PV → R) (p1 : PV) (p2 : PV) : exec (f70_E k) f70_code (endK (f70_E k) Try.f70 [4000000] f70_un retF) ⟨[.val 24 p1, .ptr 4000000 [], .undef, .undef, .undef, .undef, .undef], [(4000000, .box 24 (.val 24 p2))]⟩ = f70_N k (fun y0 y1 => retF (y0, y1)) p1 p2 :=
  (f70_e_mem k retF p1 p2)

noncomputable def G70 : Nat → PV → PV → (Bool → PV → R) → R
  | 0, _, _, _ => none
  | k + 1, p1, p2, ret0 => f70_N k  ret0 p1 p2
theorem S70 : ∀ k, Snd Try.prog 70 f70_I f70_O (fun x ret => G70 k x.1 x.2 (fun y0 y1 => ret (y0, y1)))
  | 0 => snd_none
  | k + 1 => snd_step (E := f70_E k ) rfl laidOut noNums orc0_ok (f := 70) (fn := Try.f70) (code := f70_code) Try.func70 (by kernel_rfl) (drawsOk_of laidOut orc0_ok mixed (by kernel_rfl)) f70_un f70_un_ok [4000000] (fun _ => rfl)
      (fun x ret => f70_eq k  ret x.1 x.2)

/- catchpole/class.those -/
noncomputable def f69v1_I : PV → List SV × Obs := fun x => ([.fn 70 [.ptr 2001000 []]], [(2001000, .box 24 (.val 24 x))])
noncomputable def f69v1_D : List SV → Obs → Option (PV)
  | [.fn 70 [.ptr 2001000 []]], [(2001000, .box 24 (.val 24 p1))] => some p1
  | _, _ => none
theorem f69v1_D_ok (args : List SV) (B : Obs) (x : PV) (h : f69v1_D args B = some x) : f69v1_I x = (args, B) := by
  unfold f69v1_D at h
  split at h
  · injection h with h; subst h; rfl
  · cases h
noncomputable def f69v1_O : PV × PV → Out := (fun y => ([.val 64 y.1], [(2001000, .box 24 (.val 24 y.2))]))
noncomputable def f69v1_un : Out → Option (PV × PV)
  | ([.val 64 y0], [(2001000, .box 24 (.val 24 y1))]) => some (y0, y1)
  | _ => none
theorem f69v1_un_ok (o : Out) (y : PV × PV) (h : f69v1_un o = some y) : o = f69v1_O y := by
  unfold f69v1_un at h
  split at h
  · injection h with h; subst h; rfl
  · cases h
noncomputable def f69v1_msk : Nat → Option (List Nat) := fun key => bif key == 9 then some [0, 3, 6, 7, 8] else none
noncomputable def f69v1_C (c66 : (PV → R) → R) (c70 : PV → PV → (Bool → PV → R) → R) : Oracle := orc 66 f66_D f66_O (fun x ret => c66 (fun y0 => ret y0)) <| orc 70 f70_D f70_O (fun x ret => c70 x.1 x.2 (fun y0 y1 => ret (y0, y1))) <| orc0
noncomputable def f69v1_E (k : Nat) (c66 : (PV → R) → R) (c70 : PV → PV → (Bool → PV → R) → R) : Env := { P := Try.prog, nilOwn := fun d => d == 3, fldOwn := fun d i => false, ownPar := ownPars, ownRet := false, mask := f69v1_msk, fuel := k, C := f69v1_C c66 c70 }
noncomputable def f69v1_code : Code := Try.f69.body.getD .skip
noncomputable def f69v1_cw1 : Code := subC f69v1_code [1, 1, 0, 1, 0, 0]
noncomputable def f69v1_hw1_0 (p2 : PV) (n5 : Int) (l6 : List PV) (p7 : PV) : St := ⟨[.fn 70 [.ptr 2001000 []], .dead, .dead, .own 64 3, .dead, .dead, .val 97 p2, .int .i64 (List.length (PV.els p2) : Int), .int .i64 n5, .dead, .dead, .dead, .dead, .dead, .dead, .dead, .dead, .dead, .dead, .dead, .dead, .dead, .dead], [(3, .row 9 l6), (2001000, .box 24 (.val 24 p7))]⟩
noncomputable def f69v1_w1A (k : Nat) (c66 : (PV → R) → R) (c70 : PV → PV → (Bool → PV → R) → R) (retF : PV × PV → R) (p2 : PV) (n5 : Int) (l6 : List PV) (p7 : PV) : R := loopM (f69v1_E k c66 c70) f69v1_cw1 (kont (f69v1_E k c66 c70) f69v1_code [1, 1, 0, 1, 0] (endK (f69v1_E k c66 c70) Try.f69 [2001000] f69v1_un retF)) k (f69v1_hw1_0 p2 n5 l6 p7)
noncomputable def f69v1_w1b0 (c66 : (PV → R) → R) (c70 : PV → PV → (Bool → PV → R) → R) (ret0 : PV → PV → R) (next_w1_0 : Int → (List PV) → PV → R) (p2 : PV) (n5 : Int) (l6 : List PV) (p7 : PV) : R :=
  bif (decide (n5 < (List.length (PV.els p2) : Int))) then
    bif (true && decide ((0 : Int) ≤ n5) && decide (n5 < (List.length (PV.els p2) : Int))) then
      c70 (PV.fld (List.getD (PV.els p2) (n5).toNat PV.nil) 1) p7 fun b8 p9 =>
      bif b8 then
        bif (true && roomy (List.length l6 + List.length [(PV.str (PV.chars (PV.fld (List.getD (PV.els p2) (n5).toNat PV.nil) 0)))]) 16) then
          next_w1_0 (IntKind.wrap .i64 (n5 + (1 : Int))) (l6 ++ [(PV.str (PV.chars (PV.fld (List.getD (PV.els p2) (n5).toNat PV.nil) 0)))]) p9
        else none
      else next_w1_0 (IntKind.wrap .i64 (n5 + (1 : Int))) l6 p9
    else none
  else ret0 (PV.list l6) p7

theorem f69v1_w1b0_mem (k : Nat) (c66 : (PV → R) → R) (c70 : PV → PV → (Bool → PV → R) → R) (retF : PV × PV → R) (NX_w1 : St → R) (p2 : PV) (n5 : Int) (l6 : List PV) (p7 : PV) : exec (f69v1_E k c66 c70) f69v1_cw1 (purgeK (f69v1_E k c66 c70) f69v1_cw1 (loopK NX_w1 (kont (f69v1_E k c66 c70) f69v1_code [1, 1, 0, 1, 0] (endK (f69v1_E k c66 c70) Try.f69 [2001000] f69v1_un retF)))) (f69v1_hw1_0 p2 n5 l6 p7) = f69v1_w1b0 c66 c70 (fun y0 y1 => retF (y0, y1)) (fun n5 l6 p7 => NX_w1 (f69v1_hw1_0 p2 n5 l6 p7)) p2 n5 l6 p7 := by kernel_rfl

noncomputable def f69v1_w1b0N (k : Nat) (c66 : (PV → R) → R) (c70 : PV → PV → (Bool → PV → R) → R) (ret0 : PV → PV → R) (next_w1_0 : Int → (List PV) → PV → R) (p2 : PV) (n5 : Int) (l6 : List PV) (p7 : PV) : R :=
  f69v1_w1b0 c66 c70 ret0 next_w1_0 p2 n5 l6 p7
theorem f69v1_w1b0_eq (k : Nat) (c66 : (PV → R) → R) (c70 : PV → PV → (Bool → PV → R) → R) (retF : PV × PV → R) (NX_w1 : St → R) (p2 : PV) (n5 : Int) (l6 : List PV) (p7 : PV) : exec (f69v1_E k c66 c70) f69v1_cw1 (purgeK (f69v1_E k c66 c70) f69v1_cw1 (loopK NX_w1 (kont (f69v1_E k c66 c70) f69v1_code [1, 1, 0, 1, 0] (endK (f69v1_E k c66 c70) Try.f69 [2001000] f69v1_un retF)))) (f69v1_hw1_0 p2 n5 l6 p7) = f69v1_w1b0N k c66 c70 (fun y0 y1 => retF (y0, y1)) (fun n5 l6 p7 => NX_w1 (f69v1_hw1_0 p2 n5 l6 p7)) p2 n5 l6 p7 :=
  (f69v1_w1b0_mem k c66 c70 retF NX_w1 p2 n5 l6 p7)

noncomputable def f69v1_w1B (k : Nat) (c66 : (PV → R) → R) (c70 : PV → PV → (Bool → PV → R) → R) (ret0 : PV → PV → R) (p2 : PV) (nx : Int × (List PV) × PV → R) : Int × (List PV) × PV → R := (fun s => f69v1_w1b0N k c66 c70 ret0 (fun n5 l6 p7 => nx (n5, l6, p7)) p2 s.1 s.2.1 s.2.2)
noncomputable def f69v1_w1N (k : Nat) (c66 : (PV → R) → R) (c70 : PV → PV → (Bool → PV → R) → R) (ret0 : PV → PV → R) (p2 : PV) (n5 : Int) (l6 : List PV) (p7 : PV) : R := loopR (f69v1_w1B k c66 c70 ret0 p2) k (n5, l6, p7)
theorem f69v1_w1_eq (k : Nat) (c66 : (PV → R) → R) (c70 : PV → PV → (Bool → PV → R) → R) (retF : PV × PV → R) (p2 : PV) (n5 : Int) (l6 : List PV) (p7 : PV) : f69v1_w1A k c66 c70 retF p2 n5 l6 p7 = f69v1_w1N k c66 c70 (fun y0 y1 => retF (y0, y1)) p2 n5 l6 p7 :=
  Eq.mp (by kernel_rfl) (loop_sim (E := (f69v1_E k c66 c70)) (c := f69v1_cw1) (K := (kont (f69v1_E k c66 c70) f69v1_code [1, 1, 0, 1, 0] (endK (f69v1_E k c66 c70) Try.f69 [2001000] f69v1_un retF))) (S := Int × (List PV) × PV) (fun s => f69v1_hw1_0 p2 s.1 s.2.1 s.2.2) (f69v1_w1B k c66 c70 (fun y0 y1 => retF (y0, y1)) p2) (fun NX s => by
    exact Eq.mp (by kernel_rfl) (f69v1_w1b0_eq k c66 c70 retF NX p2 s.1 s.2.1 s.2.2)) k (n5, l6, p7))

noncomputable def f69v1_e (c66 : (PV → R) → R) (c70 : PV → PV → (Bool → PV → R) → R) (ret0 : PV → PV → R) (w1 : PV → Int → (List PV) → PV → R) (p1 : PV) : R :=
  c66 fun p2 =>
  w1 p2 0 [] p1

theorem f69v1_e_mem (k : Nat) (c66 : (PV → R) → R) (c70 : PV → PV → (Bool → PV → R) → R) (retF : PV × PV → R) (p1 : PV) : exec (f69v1_E k c66 c70) f69v1_code (endK (f69v1_E k c66 c70) Try.f69 [2001000] f69v1_un retF) ⟨[.fn 70 [.ptr 2001000 []], .undef, .undef, .undef, .undef, .undef, .undef, .undef, .undef, .undef, .undef, .undef, .undef, .undef, .undef, .undef, .undef, .undef, .undef, .undef, .undef, .undef, .undef], [(2001000, .box 24 (.val 24 p1))]⟩ = f69v1_e c66 c70 (fun y0 y1 => retF (y0, y1)) (fun p2 n5 l6 p7 => f69v1_w1A k c66 c70 retF p2 n5 l6 p7) p1 := by kernel_rfl

noncomputable def f69v1_N (k : Nat) (c66 : (PV → R) → R) (c70 : PV → PV → (Bool → PV → R) → R) (ret0 : PV → PV → R) (p1 : PV) : R :=
  f69v1_e c66 c70 ret0 (fun p2 n5 l6 p7 => f69v1_w1N k c66 c70 ret0 p2 n5 l6 p7) p1
theorem f69v1_eq (k : Nat) (c66 : (PV → R) → R) (c70 : PV → PV → (Bool → PV → R) → R) (retF : PV × PV → R) (p1 : PV) : exec (f69v1_E k c66 c70) f69v1_code (endK (f69v1_E k c66 c70) Try.f69 [2001000] f69v1_un retF) ⟨[.fn 70 [.ptr 2001000 []], .undef, .undef, .undef, .undef, .undef, .undef, .undef, .undef, .undef, .undef, .undef, .undef, .undef, .undef, .undef, .undef, .undef, .undef, .undef, .undef, .undef, .undef], [(2001000, .box 24 (.val 24 p1))]⟩ = f69v1_N k c66 c70 (fun y0 y1 => retF (y0, y1)) p1 :=
  (f69v1_e_mem k c66 c70 retF p1).trans (by rw [show (fun p2 n5 l6 p7 => f69v1_w1A k c66 c70 retF p2 n5 l6 p7) = (fun p2 n5 l6 p7 => f69v1_w1N k c66 c70 (fun y0 y1 => retF (y0, y1)) p2 n5 l6 p7) from funext fun p2 => funext fun n5 => funext fun l6 => funext fun p7 => f69v1_w1_eq k c66 c70 retF p2 n5 l6 p7]; rfl)

noncomputable def G69v1 : Nat → PV → (PV → PV → R) → R
  | 0, _, _ => none
  | k + 1, p1, ret0 => f69v1_N k (G66 k) (G70 k) ret0 p1
theorem S69v1 : ∀ k, Snd Try.prog 69 f69v1_I f69v1_O (fun x ret => G69v1 k x (fun y0 y1 => ret (y0, y1)))
  | 0 => snd_none
  | k + 1 => snd_step (E := f69v1_E k (G66 k) (G70 k)) rfl laidOut noNums (orc_ok (S66 k).o f66_D_ok (orc_ok (S70 k).o f70_D_ok orc0_ok)) (f := 69) (fn := Try.f69) (code := f69v1_code) Try.func69 (by kernel_rfl) (drawsOk_of laidOut (orc_ok (S66 k).o f66_D_ok (orc_ok (S70 k).o f70_D_ok orc0_ok)) mixed (by kernel_rfl)) f69v1_un f69v1_un_ok [2001000] (fun _ => rfl)
      (fun x ret => f69v1_eq k (G66 k) (G70 k) ret x)

/- catchpole/class.Whole -/
noncomputable def f40_I : PV → List SV × Obs := fun x => ([.val 24 x], [])
noncomputable def f40_D : List SV → Obs → Option (PV)
  | [.val 24 p1], [] => some p1
  | _, _ => none
theorem f40_D_ok (args : List SV) (B : Obs) (x : PV) (h : f40_D args B = some x) : f40_I x = (args, B) := by
  unfold f40_D at h
  split at h
  · injection h with h; subst h; rfl
  · cases h
noncomputable def f40_O : (List Int) × Bool → Out := (fun y => ([.str y.1, .bool y.2], []))
noncomputable def f40_un : Out → Option ((List Int) × Bool)
  | ([.str y0, .bool y1], []) => some (y0, y1)
  | _ => none
theorem f40_un_ok (o : Out) (y : (List Int) × Bool) (h : f40_un o = some y) : o = f40_O y := by
  unfold f40_un at h
  split at h
  · injection h with h; subst h; rfl
  · cases h
noncomputable def f40_msk : Nat → Option (List Nat) := fun key =>  none
noncomputable def f40_C (c69v1 : PV → (PV → PV → R) → R) : Oracle := orc 69 f69v1_D f69v1_O (fun x ret => c69v1 x (fun y0 y1 => ret (y0, y1))) <| orc0
noncomputable def f40_E (k : Nat) (c69v1 : PV → (PV → PV → R) → R) : Env := { P := Try.prog, nilOwn := fun d => false, fldOwn := fun d i => false, ownPar := ownPars, ownRet := false, mask := f40_msk, fuel := k, C := f40_C c69v1 }
noncomputable def f40_code : Code := Try.f40.body.getD .skip
noncomputable def f40_e (c69v1 : PV → (PV → PV → R) → R) (ret0 : (List Int) → Bool → R) (p1 : PV) : R :=
  c69v1 p1 fun p2 p3 =>
  bif (decide ((List.length (PV.els p2) : Int) = (0 : Int))) then
    ret0 [] false
  else bif (true && decide ((0 : Int) ≤ (0 : Int)) && decide ((0 : Int) < (List.length (PV.els p2) : Int))) then
    ret0 (PV.chars (List.getD (PV.els p2) ((0 : Int)).toNat PV.nil)) true
  else none

theorem f40_e_mem (k : Nat) (c69v1 : PV → (PV → PV → R) → R) (retF : (List Int) × Bool → R) (p1 : PV) : exec (f40_E k c69v1) f40_code (endK (f40_E k c69v1) Try.f40 [] f40_un retF) ⟨[.val 24 p1, .undef, .undef, .undef, .undef, .undef, .undef, .undef, .undef, .undef, .undef, .undef, .undef], []⟩ = f40_e c69v1 (fun y0 y1 => retF (y0, y1)) p1 := by kernel_rfl

noncomputable def f40_N (k : Nat) (c69v1 : PV → (PV → PV → R) → R) (ret0 : (List Int) → Bool → R) (p1 : PV) : R :=
  f40_e c69v1 ret0 p1
theorem f40_eq (k : Nat) (c69v1 : PV → (PV → PV → R) → R) (retF : (List Int) × Bool → R) (p1 : PV) : exec (f40_E k c69v1) f40_code (endK (f40_E k c69v1) Try.f40 [] f40_un retF) ⟨[.val 24 p1, .undef, .undef, .undef, .undef, .undef, .undef, .undef, .undef, .undef, .undef, .undef, .undef], []⟩ = f40_N k c69v1 (fun y0 y1 => retF (y0, y1)) p1 :=
  (f40_e_mem k c69v1 retF p1)

noncomputable def G40 : Nat → PV → ((List Int) → Bool → R) → R
  | 0, _, _ => none
  | k + 1, p1, ret0 => f40_N k (G69v1 k) ret0 p1
theorem S40 : ∀ k, Snd Try.prog 40 f40_I f40_O (fun x ret => G40 k x (fun y0 y1 => ret (y0, y1)))
  | 0 => snd_none
  | k + 1 => snd_step (E := f40_E k (G69v1 k)) rfl laidOut noNums (orc_ok (S69v1 k).o f69v1_D_ok orc0_ok) (f := 40) (fn := Try.f40) (code := f40_code) Try.func40 (by kernel_rfl) (drawsOk_of laidOut (orc_ok (S69v1 k).o f69v1_D_ok orc0_ok) mixed (by kernel_rfl)) f40_un f40_un_ok [] (fun _ => rfl)
      (fun x ret => f40_eq k (G69v1 k) ret x)

/- catchpole/catchpolelaw2.own -/
noncomputable def f42_I : PV → List SV × Obs := fun x => ([.val 24 x], [])
noncomputable def f42_D : List SV → Obs → Option (PV)
  | [.val 24 p1], [] => some p1
  | _, _ => none
theorem f42_D_ok (args : List SV) (B : Obs) (x : PV) (h : f42_D args B = some x) : f42_I x = (args, B) := by
  unfold f42_D at h
  split at h
  · injection h with h; subst h; rfl
  · cases h
noncomputable def f42_O : PV → Out := (fun y => ([.val 45 y], []))
noncomputable def f42_un : Out → Option (PV)
  | ([.val 45 y0], []) => some y0
  | _ => none
theorem f42_un_ok (o : Out) (y : PV) (h : f42_un o = some y) : o = f42_O y := by
  unfold f42_un at h
  split at h
  · injection h with h; subst h; rfl
  · cases h
noncomputable def f42_msk : Nat → Option (List Nat) := fun key =>  none
noncomputable def f42_C (c65 : PV → (PV → R) → R) : Oracle := orc 65 f65_D f65_O (fun x ret => c65 x (fun y0 => ret y0)) <| orc0
noncomputable def f42_E (k : Nat) (c65 : PV → (PV → R) → R) : Env := { P := Try.prog, nilOwn := fun d => false, fldOwn := fun d i => false, ownPar := ownPars, ownRet := false, mask := f42_msk, fuel := k, C := f42_C c65 }
noncomputable def f42_code : Code := Try.f42.body.getD .skip
noncomputable def f42_e (c65 : PV → (PV → R) → R) (ret0 : PV → R) (p1 : PV) : R :=
  c65 p1 fun p2 =>
  ret0 p2

theorem f42_e_mem (k : Nat) (c65 : PV → (PV → R) → R) (retF : PV → R) (p1 : PV) : exec (f42_E k c65) f42_code (endK (f42_E k c65) Try.f42 [] f42_un retF) ⟨[.val 24 p1, .undef, .undef, .undef, .undef], []⟩ = f42_e c65 (fun y0 => retF y0) p1 := by kernel_rfl

noncomputable def f42_N (k : Nat) (c65 : PV → (PV → R) → R) (ret0 : PV → R) (p1 : PV) : R :=
  f42_e c65 ret0 p1
theorem f42_eq (k : Nat) (c65 : PV → (PV → R) → R) (retF : PV → R) (p1 : PV) : exec (f42_E k c65) f42_code (endK (f42_E k c65) Try.f42 [] f42_un retF) ⟨[.val 24 p1, .undef, .undef, .undef, .undef], []⟩ = f42_N k c65 (fun y0 => retF y0) p1 :=
  (f42_e_mem k c65 retF p1)

noncomputable def G42 : Nat → PV → (PV → R) → R
  | 0, _, _ => none
  | k + 1, p1, ret0 => f42_N k (G65 k) ret0 p1
theorem S42 : ∀ k, Snd Try.prog 42 f42_I f42_O (fun x ret => G42 k x (fun y0 => ret y0))
  | 0 => snd_none
  | k + 1 => snd_step (E := f42_E k (G65 k)) rfl laidOut noNums (orc_ok (S65 k).o f65_D_ok orc0_ok) (f := 42) (fn := Try.f42) (code := f42_code) Try.func42 (by kernel_rfl) (drawsOk_of laidOut (orc_ok (S65 k).o f65_D_ok orc0_ok) mixed (by kernel_rfl)) f42_un f42_un_ok [] (fun _ => rfl)
      (fun x ret => f42_eq k (G65 k) ret x)

/- catchpole/catchpoleref1.Names -/
noncomputable def f44_I : Unit → List SV × Obs := fun x => ([], [])
noncomputable def f44_D : List SV → Obs → Option (Unit)
  | [], [] => some ()
  | _, _ => none
theorem f44_D_ok (args : List SV) (B : Obs) (x : Unit) (h : f44_D args B = some x) : f44_I x = (args, B) := by
  unfold f44_D at h
  split at h
  · injection h with h; subst h; rfl
  · cases h
noncomputable def f44_O : PV → Out := (fun y => ([.val 64 y], []))
noncomputable def f44_un : Out → Option (PV)
  | ([.val 64 y0], []) => some y0
  | _ => none
theorem f44_un_ok (o : Out) (y : PV) (h : f44_un o = some y) : o = f44_O y := by
  unfold f44_un at h
  split at h
  · injection h with h; subst h; rfl
  · cases h
noncomputable def f44_msk : Nat → Option (List Nat) := fun key =>  none
noncomputable def f44_C : Oracle := orc0
noncomputable def f44_E (k : Nat) : Env := { P := Try.prog, nilOwn := fun d => false, fldOwn := fun d i => false, ownPar := ownPars, ownRet := false, mask := f44_msk, fuel := k, C := f44_C }
noncomputable def f44_code : Code := Try.f44.body.getD .skip
noncomputable def f44_e (ret0 : PV → R) : R :=
  ret0 (PV.list [(PV.str [97, 108, 110, 117, 109]), (PV.str [97, 108, 112, 104, 97]), (PV.str [98, 108, 97, 110, 107]), (PV.str [99, 110, 116, 114, 108]), (PV.str [100, 105, 103, 105, 116]), (PV.str [103, 114, 97, 112, 104]), (PV.str [108, 111, 119, 101, 114]), (PV.str [112, 114, 105, 110, 116]), (PV.str [112, 117, 110, 99, 116]), (PV.str [115, 112, 97, 99, 101]), (PV.str [117, 112, 112, 101, 114]), (PV.str [120, 100, 105, 103, 105, 116])])

theorem f44_e_mem (k : Nat) (retF : PV → R) : exec (f44_E k) f44_code (endK (f44_E k) Try.f44 [] f44_un retF) ⟨[.undef, .undef], []⟩ = f44_e (fun y0 => retF y0) := by kernel_rfl

noncomputable def f44_N (k : Nat) (ret0 : PV → R) : R :=
  f44_e ret0
theorem f44_eq (k : Nat) (retF : PV → R) : exec (f44_E k) f44_code (endK (f44_E k) Try.f44 [] f44_un retF) ⟨[.undef, .undef], []⟩ = f44_N k (fun y0 => retF y0) :=
  (f44_e_mem k retF)

noncomputable def G44 : Nat → (PV → R) → R
  | 0, _ => none
  | k + 1, ret0 => f44_N k  ret0 
theorem S44 : ∀ k, Snd Try.prog 44 f44_I f44_O (fun x ret => G44 k (fun y0 => ret y0))
  | 0 => snd_none
  | k + 1 => snd_step (E := f44_E k ) rfl laidOut noNums orc0_ok (f := 44) (fn := Try.f44) (code := f44_code) Try.func44 (by kernel_rfl) (drawsOk_of laidOut orc0_ok mixed (by kernel_rfl)) f44_un f44_un_ok [] (fun _ => rfl)
      (fun x ret => f44_eq k  ret)

/- catchpole/catchpoleref1.Whole -/
noncomputable def f41_I : PV → List SV × Obs := fun x => ([.val 45 x], [])
noncomputable def f41_D : List SV → Obs → Option (PV)
  | [.val 45 p1], [] => some p1
  | _, _ => none
theorem f41_D_ok (args : List SV) (B : Obs) (x : PV) (h : f41_D args B = some x) : f41_I x = (args, B) := by
  unfold f41_D at h
  split at h
  · injection h with h; subst h; rfl
  · cases h
noncomputable def f41_O : (List Int) × Bool → Out := (fun y => ([.str y.1, .bool y.2], []))
noncomputable def f41_un : Out → Option ((List Int) × Bool)
  | ([.str y0, .bool y1], []) => some (y0, y1)
  | _ => none
theorem f41_un_ok (o : Out) (y : (List Int) × Bool) (h : f41_un o = some y) : o = f41_O y := by
  unfold f41_un at h
  split at h
  · injection h with h; subst h; rfl
  · cases h
noncomputable def f41_msk : Nat → Option (List Nat) := fun key => bif key == 9 then some [1, 4, 5] else none
noncomputable def f41_C (c39 : (List Int) → (PV → Bool → R) → R) (c44 : (PV → R) → R) : Oracle := orc 39 f39_D f39_O (fun x ret => c39 x (fun y0 y1 => ret (y0, y1))) <| orc 44 f44_D f44_O (fun x ret => c44 (fun y0 => ret y0)) <| orc0
noncomputable def f41_E (k : Nat) (c39 : (List Int) → (PV → Bool → R) → R) (c44 : (PV → R) → R) : Env := { P := Try.prog, nilOwn := fun d => false, fldOwn := fun d i => false, ownPar := ownPars, ownRet := false, mask := f41_msk, fuel := k, C := f41_C c39 c44 }
noncomputable def f41_code : Code := Try.f41.body.getD .skip
noncomputable def f41_cw1 : Code := subC f41_code [1, 1, 0, 1, 0, 0]
noncomputable def f41_hw1_0 (p1 : PV) (p2 : PV) (n5 : Int) : St := ⟨[.dead, .ptr 1 [], .dead, .dead, .val 64 p2, .int .i64 n5, .dead, .dead, .dead, .dead, .dead, .dead, .dead, .dead, .dead, .dead, .dead, .dead, .dead, .dead, .dead, .dead, .dead, .dead, .dead, .dead, .dead, .dead, .dead, .dead], [(1, .box 45 (.val 45 p1))]⟩
noncomputable def f41_w1A (k : Nat) (c39 : (List Int) → (PV → Bool → R) → R) (c44 : (PV → R) → R) (retF : (List Int) × Bool → R) (p1 : PV) (p2 : PV) (n5 : Int) : R := loopM (f41_E k c39 c44) f41_cw1 (kont (f41_E k c39 c44) f41_code [1, 1, 0, 1, 0] (endK (f41_E k c39 c44) Try.f41 [] f41_un retF)) k (f41_hw1_0 p1 p2 n5)
noncomputable def f41_w1b0 (c39 : (List Int) → (PV → Bool → R) → R) (c44 : (PV → R) → R) (ret0 : (List Int) → Bool → R) (next_w1_0 : Int → R) (p1 : PV) (p2 : PV) (n5 : Int) : R :=
  bif (decide (n5 < (List.length (PV.els p2) : Int))) then
    bif (true && decide ((0 : Int) ≤ n5) && decide (n5 < (List.length (PV.els p2) : Int))) then
      c39 (PV.chars (List.getD (PV.els p2) (n5).toNat PV.nil)) fun p6 b7 =>
      bif (PV.beq p6 p1) then
        bif (true && decide ((0 : Int) ≤ n5) && decide (n5 < (List.length (PV.els p2) : Int))) then
          ret0 (PV.chars (List.getD (PV.els p2) (n5).toNat PV.nil)) true
        else none
      else next_w1_0 (IntKind.wrap .i64 (n5 + (1 : Int)))
    else none
  else ret0 [] false

theorem f41_w1b0_mem (k : Nat) (c39 : (List Int) → (PV → Bool → R) → R) (c44 : (PV → R) → R) (retF : (List Int) × Bool → R) (NX_w1 : St → R) (p1 : PV) (p2 : PV) (n5 : Int) : exec (f41_E k c39 c44) f41_cw1 (purgeK (f41_E k c39 c44) f41_cw1 (loopK NX_w1 (kont (f41_E k c39 c44) f41_code [1, 1, 0, 1, 0] (endK (f41_E k c39 c44) Try.f41 [] f41_un retF)))) (f41_hw1_0 p1 p2 n5) = f41_w1b0 c39 c44 (fun y0 y1 => retF (y0, y1)) (fun n5 => NX_w1 (f41_hw1_0 p1 p2 n5)) p1 p2 n5 := by kernel_rfl

noncomputable def f41_w1b0N (k : Nat) (c39 : (List Int) → (PV → Bool → R) → R) (c44 : (PV → R) → R) (ret0 : (List Int) → Bool → R) (next_w1_0 : Int → R) (p1 : PV) (p2 : PV) (n5 : Int) : R :=
  f41_w1b0 c39 c44 ret0 next_w1_0 p1 p2 n5
theorem f41_w1b0_eq (k : Nat) (c39 : (List Int) → (PV → Bool → R) → R) (c44 : (PV → R) → R) (retF : (List Int) × Bool → R) (NX_w1 : St → R) (p1 : PV) (p2 : PV) (n5 : Int) : exec (f41_E k c39 c44) f41_cw1 (purgeK (f41_E k c39 c44) f41_cw1 (loopK NX_w1 (kont (f41_E k c39 c44) f41_code [1, 1, 0, 1, 0] (endK (f41_E k c39 c44) Try.f41 [] f41_un retF)))) (f41_hw1_0 p1 p2 n5) = f41_w1b0N k c39 c44 (fun y0 y1 => retF (y0, y1)) (fun n5 => NX_w1 (f41_hw1_0 p1 p2 n5)) p1 p2 n5 :=
  (f41_w1b0_mem k c39 c44 retF NX_w1 p1 p2 n5)

noncomputable def f41_w1B (k : Nat) (c39 : (List Int) → (PV → Bool → R) → R) (c44 : (PV → R) → R) (ret0 : (List Int) → Bool → R) (p1 : PV) (p2 : PV) (nx : Int → R) : Int → R := (fun s => f41_w1b0N k c39 c44 ret0 (fun n5 => nx n5) p1 p2 s)
noncomputable def f41_w1N (k : Nat) (c39 : (List Int) → (PV → Bool → R) → R) (c44 : (PV → R) → R) (ret0 : (List Int) → Bool → R) (p1 : PV) (p2 : PV) (n5 : Int) : R := loopR (f41_w1B k c39 c44 ret0 p1 p2) k n5
theorem f41_w1_eq (k : Nat) (c39 : (List Int) → (PV → Bool → R) → R) (c44 : (PV → R) → R) (retF : (List Int) × Bool → R) (p1 : PV) (p2 : PV) (n5 : Int) : f41_w1A k c39 c44 retF p1 p2 n5 = f41_w1N k c39 c44 (fun y0 y1 => retF (y0, y1)) p1 p2 n5 :=
  Eq.mp (by kernel_rfl) (loop_sim (E := (f41_E k c39 c44)) (c := f41_cw1) (K := (kont (f41_E k c39 c44) f41_code [1, 1, 0, 1, 0] (endK (f41_E k c39 c44) Try.f41 [] f41_un retF))) (S := Int) (fun s => f41_hw1_0 p1 p2 s) (f41_w1B k c39 c44 (fun y0 y1 => retF (y0, y1)) p1 p2) (fun NX s => by
    exact Eq.mp (by kernel_rfl) (f41_w1b0_eq k c39 c44 retF NX p1 p2 s)) k n5)

noncomputable def f41_e (c39 : (List Int) → (PV → Bool → R) → R) (c44 : (PV → R) → R) (ret0 : (List Int) → Bool → R) (w1 : PV → Int → R) (p1 : PV) : R :=
  c44 fun p2 =>
  w1 p2 0

theorem f41_e_mem (k : Nat) (c39 : (List Int) → (PV → Bool → R) → R) (c44 : (PV → R) → R) (retF : (List Int) × Bool → R) (p1 : PV) : exec (f41_E k c39 c44) f41_code (endK (f41_E k c39 c44) Try.f41 [] f41_un retF) ⟨[.val 45 p1, .undef, .undef, .undef, .undef, .undef, .undef, .undef, .undef, .undef, .undef, .undef, .undef, .undef, .undef, .undef, .undef, .undef, .undef, .undef, .undef, .undef, .undef, .undef, .undef, .undef, .undef, .undef, .undef, .undef], []⟩ = f41_e c39 c44 (fun y0 y1 => retF (y0, y1)) (fun p2 n5 => f41_w1A k c39 c44 retF p1 p2 n5) p1 := by kernel_rfl

noncomputable def f41_N (k : Nat) (c39 : (List Int) → (PV → Bool → R) → R) (c44 : (PV → R) → R) (ret0 : (List Int) → Bool → R) (p1 : PV) : R :=
  f41_e c39 c44 ret0 (fun p2 n5 => f41_w1N k c39 c44 ret0 p1 p2 n5) p1
theorem f41_eq (k : Nat) (c39 : (List Int) → (PV → Bool → R) → R) (c44 : (PV → R) → R) (retF : (List Int) × Bool → R) (p1 : PV) : exec (f41_E k c39 c44) f41_code (endK (f41_E k c39 c44) Try.f41 [] f41_un retF) ⟨[.val 45 p1, .undef, .undef, .undef, .undef, .undef, .undef, .undef, .undef, .undef, .undef, .undef, .undef, .undef, .undef, .undef, .undef, .undef, .undef, .undef, .undef, .undef, .undef, .undef, .undef, .undef, .undef, .undef, .undef, .undef], []⟩ = f41_N k c39 c44 (fun y0 y1 => retF (y0, y1)) p1 :=
  (f41_e_mem k c39 c44 retF p1).trans (by rw [show (fun p2 n5 => f41_w1A k c39 c44 retF p1 p2 n5) = (fun p2 n5 => f41_w1N k c39 c44 (fun y0 y1 => retF (y0, y1)) p1 p2 n5) from funext fun p2 => funext fun n5 => f41_w1_eq k c39 c44 retF p1 p2 n5]; rfl)

noncomputable def G41 : Nat → PV → ((List Int) → Bool → R) → R
  | 0, _, _ => none
  | k + 1, p1, ret0 => f41_N k (G39 k) (G44 k) ret0 p1
theorem S41 : ∀ k, Snd Try.prog 41 f41_I f41_O (fun x ret => G41 k x (fun y0 y1 => ret (y0, y1)))
  | 0 => snd_none
  | k + 1 => snd_step (E := f41_E k (G39 k) (G44 k)) rfl laidOut noNums (orc_ok (S39 k).o f39_D_ok (orc_ok (S44 k).o f44_D_ok orc0_ok)) (f := 41) (fn := Try.f41) (code := f41_code) Try.func41 (by kernel_rfl) (drawsOk_of laidOut (orc_ok (S39 k).o f39_D_ok (orc_ok (S44 k).o f44_D_ok orc0_ok)) mixed (by kernel_rfl)) f41_un f41_un_ok [] (fun _ => rfl)
      (fun x ret => f41_eq k (G39 k) (G44 k) ret x)

/- catchpole/class.In$1 -/
noncomputable def f71_I : PV × Int → List SV × Obs := fun x => ([.val 24 x.1, .ptr 4000000 []], [(4000000, .box 5 (.int .u8 x.2))])
noncomputable def f71_D : List SV → Obs → Option (PV × Int)
  | [.val 24 p1, .ptr 4000000 []], [(4000000, .box 5 (.int .u8 n2))] => some (p1, n2)
  | _, _ => none
theorem f71_D_ok (args : List SV) (B : Obs) (x : PV × Int) (h : f71_D args B = some x) : f71_I x = (args, B) := by
  unfold f71_D at h
  split at h
  · injection h with h; subst h; rfl
  · cases h
noncomputable def f71_O : Bool × Int → Out := (fun y => ([.bool y.1], [(4000000, .box 5 (.int .u8 y.2))]))
noncomputable def f71_un : Out → Option (Bool × Int)
  | ([.bool y0], [(4000000, .box 5 (.int .u8 y1))]) => some (y0, y1)
  | _ => none
theorem f71_un_ok (o : Out) (y : Bool × Int) (h : f71_un o = some y) : o = f71_O y := by
  unfold f71_un at h
  split at h
  · injection h with h; subst h; rfl
  · cases h
noncomputable def f71_msk : Nat → Option (List Nat) := fun key =>  none
noncomputable def f71_C (c23 : PV → Int → (Bool → R) → R) : Oracle := orc 23 f23_D f23_O (fun x ret => c23 x.1 x.2 (fun y0 => ret y0)) <| orc0
noncomputable def f71_E (k : Nat) (c23 : PV → Int → (Bool → R) → R) : Env := { P := Try.prog, nilOwn := fun d => false, fldOwn := fun d i => false, ownPar := ownPars, ownRet := false, mask := f71_msk, fuel := k, C := f71_C c23 }
noncomputable def f71_code : Code := Try.f71.body.getD .skip
noncomputable def f71_e (c23 : PV → Int → (Bool → R) → R) (ret0 : Bool → Int → R) (p1 : PV) (n2 : Int) : R :=
  c23 p1 n2 fun b3 =>
  ret0 b3 n2

theorem f71_e_mem (k : Nat) (c23 : PV → Int → (Bool → R) → R) (retF : Bool × Int → R) (p1 : PV) (n2 : Int) : exec (f71_E k c23) f71_code (endK (f71_E k c23) Try.f71 [4000000] f71_un retF) ⟨[.val 24 p1, .ptr 4000000 [], .undef, .undef, .undef, .undef, .undef], [(4000000, .box 5 (.int .u8 n2))]⟩ = f71_e c23 (fun y0 y1 => retF (y0, y1)) p1 n2 := by kernel_rfl

noncomputable def f71_N (k : Nat) (c23 : PV → Int → (Bool → R) → R) (ret0 : Bool → Int → R) (p1 : PV) (n2 : Int) : R :=
  f71_e c23 ret0 p1 n2
theorem f71_eq (k : Nat) (c23 : PV → Int → (Bool → R) → R) (retF : Bool × Int → R) (p1 : PV) (n2 : Int) : exec (f71_E k c23) f71_code (endK (f71_E k c23) Try.f71 [4000000] f71_un retF) ⟨[.val 24 p1, .ptr 4000000 [], .undef, .undef, .undef, .undef, .undef], [(4000000, .box 5 (.int .u8 n2))]⟩ = f71_N k c23 (fun y0 y1 => retF (y0, y1)) p1 n2 :=
  (f71_e_mem k c23 retF p1 n2)

noncomputable def G71 : Nat → PV → Int → (Bool → Int → R) → R
  | 0, _, _, _ => none
  | k + 1, p1, n2, ret0 => f71_N k (G23 k) ret0 p1 n2
theorem S71 : ∀ k, Snd Try.prog 71 f71_I f71_O (fun x ret => G71 k x.1 x.2 (fun y0 y1 => ret (y0, y1)))
  | 0 => snd_none
  | k + 1 => snd_step (E := f71_E k (G23 k)) rfl laidOut noNums (orc_ok (S23 k).o f23_D_ok orc0_ok) (f := 71) (fn := Try.f71) (code := f71_code) Try.func71 (by kernel_rfl) (drawsOk_of laidOut (orc_ok (S23 k).o f23_D_ok orc0_ok) mixed (by kernel_rfl)) f71_un f71_un_ok [4000000] (fun _ => rfl)
      (fun x ret => f71_eq k (G23 k) ret x.1 x.2)

/- catchpole/class.those -/
noncomputable def f69v2_I : Int → List SV × Obs := fun x => ([.fn 71 [.ptr 2001000 []]], [(2001000, .box 5 (.int .u8 x))])
noncomputable def f69v2_D : List SV → Obs → Option (Int)
  | [.fn 71 [.ptr 2001000 []]], [(2001000, .box 5 (.int .u8 n1))] => some n1
  | _, _ => none
theorem f69v2_D_ok (args : List SV) (B : Obs) (x : Int) (h : f69v2_D args B = some x) : f69v2_I x = (args, B) := by
  unfold f69v2_D at h
  split at h
  · injection h with h; subst h; rfl
  · cases h
noncomputable def f69v2_O : PV × Int → Out := (fun y => ([.val 64 y.1], [(2001000, .box 5 (.int .u8 y.2))]))
noncomputable def f69v2_un : Out → Option (PV × Int)
  | ([.val 64 y0], [(2001000, .box 5 (.int .u8 y1))]) => some (y0, y1)
  | _ => none
theorem f69v2_un_ok (o : Out) (y : PV × Int) (h : f69v2_un o = some y) : o = f69v2_O y := by
  unfold f69v2_un at h
  split at h
  · injection h with h; subst h; rfl
  · cases h
noncomputable def f69v2_msk : Nat → Option (List Nat) := fun key => bif key == 9 then some [0, 3, 6, 7, 8] else none
noncomputable def f69v2_C (c66 : (PV → R) → R) (c71 : PV → Int → (Bool → Int → R) → R) : Oracle := orc 66 f66_D f66_O (fun x ret => c66 (fun y0 => ret y0)) <| orc 71 f71_D f71_O (fun x ret => c71 x.1 x.2 (fun y0 y1 => ret (y0, y1))) <| orc0
noncomputable def f69v2_E (k : Nat) (c66 : (PV → R) → R) (c71 : PV → Int → (Bool → Int → R) → R) : Env := { P := Try.prog, nilOwn := fun d => d == 3, fldOwn := fun d i => false, ownPar := ownPars, ownRet := false, mask := f69v2_msk, fuel := k, C := f69v2_C c66 c71 }
noncomputable def f69v2_code : Code := Try.f69.body.getD .skip
noncomputable def f69v2_cw1 : Code := subC f69v2_code [1, 1, 0, 1, 0, 0]
noncomputable def f69v2_hw1_0 (p2 : PV) (n5 : Int) (l6 : List PV) (n7 : Int) : St := ⟨[.fn 71 [.ptr 2001000 []], .dead, .dead, .own 64 3, .dead, .dead, .val 97 p2, .int .i64 (List.length (PV.els p2) : Int), .int .i64 n5, .dead, .dead, .dead, .dead, .dead, .dead, .dead, .dead, .dead, .dead, .dead, .dead, .dead, .dead], [(3, .row 9 l6), (2001000, .box 5 (.int .u8 n7))]⟩
noncomputable def f69v2_w1A (k : Nat) (c66 : (PV → R) → R) (c71 : PV → Int → (Bool → Int → R) → R) (retF : PV × Int → R) (p2 : PV) (n5 : Int) (l6 : List PV) (n7 : Int) : R := loopM (f69v2_E k c66 c71) f69v2_cw1 (kont (f69v2_E k c66 c71) f69v2_code [1, 1, 0, 1, 0] (endK (f69v2_E k c66 c71) Try.f69 [2001000] f69v2_un retF)) k (f69v2_hw1_0 p2 n5 l6 n7)
noncomputable def f69v2_w1b0 (c66 : (PV → R) → R) (c71 : PV → Int → (Bool → Int → R) → R) (ret0 : PV → Int → R) (next_w1_0 : Int → (List PV) → Int → R) (p2 : PV) (n5 : Int) (l6 : List PV) (n7 : Int) : R :=
  bif (decide (n5 < (List.length (PV.els p2) : Int))) then
    bif (true && decide ((0 : Int) ≤ n5) && decide (n5 < (List.length (PV.els p2) : Int))) then
      c71 (PV.fld (List.getD (PV.els p2) (n5).toNat PV.nil) 1) n7 fun b8 n9 =>
      bif b8 then
        bif (true && roomy (List.length l6 + List.length [(PV.str (PV.chars (PV.fld (List.getD (PV.els p2) (n5).toNat PV.nil) 0)))]) 16) then
          next_w1_0 (IntKind.wrap .i64 (n5 + (1 : Int))) (l6 ++ [(PV.str (PV.chars (PV.fld (List.getD (PV.els p2) (n5).toNat PV.nil) 0)))]) n9
        else none
      else next_w1_0 (IntKind.wrap .i64 (n5 + (1 : Int))) l6 n9
    else none
  else ret0 (PV.list l6) n7

theorem f69v2_w1b0_mem (k : Nat) (c66 : (PV → R) → R) (c71 : PV → Int → (Bool → Int → R) → R) (retF : PV × Int → R) (NX_w1 : St → R) (p2 : PV) (n5 : Int) (l6 : List PV) (n7 : Int) : exec (f69v2_E k c66 c71) f69v2_cw1 (purgeK (f69v2_E k c66 c71) f69v2_cw1 (loopK NX_w1 (kont (f69v2_E k c66 c71) f69v2_code [1, 1, 0, 1, 0] (endK (f69v2_E k c66 c71) Try.f69 [2001000] f69v2_un retF)))) (f69v2_hw1_0 p2 n5 l6 n7) = f69v2_w1b0 c66 c71 (fun y0 y1 => retF (y0, y1)) (fun n5 l6 n7 => NX_w1 (f69v2_hw1_0 p2 n5 l6 n7)) p2 n5 l6 n7 := by kernel_rfl

noncomputable def f69v2_w1b0N (k : Nat) (c66 : (PV → R) → R) (c71 : PV → Int → (Bool → Int → R) → R) (ret0 : PV → Int → R) (next_w1_0 : Int → (List PV) → Int → R) (p2 : PV) (n5 : Int) (l6 : List PV) (n7 : Int) : R :=
  f69v2_w1b0 c66 c71 ret0 next_w1_0 p2 n5 l6 n7
theorem f69v2_w1b0_eq (k : Nat) (c66 : (PV → R) → R) (c71 : PV → Int → (Bool → Int → R) → R) (retF : PV × Int → R) (NX_w1 : St → R) (p2 : PV) (n5 : Int) (l6 : List PV) (n7 : Int) : exec (f69v2_E k c66 c71) f69v2_cw1 (purgeK (f69v2_E k c66 c71) f69v2_cw1 (loopK NX_w1 (kont (f69v2_E k c66 c71) f69v2_code [1, 1, 0, 1, 0] (endK (f69v2_E k c66 c71) Try.f69 [2001000] f69v2_un retF)))) (f69v2_hw1_0 p2 n5 l6 n7) = f69v2_w1b0N k c66 c71 (fun y0 y1 => retF (y0, y1)) (fun n5 l6 n7 => NX_w1 (f69v2_hw1_0 p2 n5 l6 n7)) p2 n5 l6 n7 :=
  (f69v2_w1b0_mem k c66 c71 retF NX_w1 p2 n5 l6 n7)

noncomputable def f69v2_w1B (k : Nat) (c66 : (PV → R) → R) (c71 : PV → Int → (Bool → Int → R) → R) (ret0 : PV → Int → R) (p2 : PV) (nx : Int × (List PV) × Int → R) : Int × (List PV) × Int → R := (fun s => f69v2_w1b0N k c66 c71 ret0 (fun n5 l6 n7 => nx (n5, l6, n7)) p2 s.1 s.2.1 s.2.2)
noncomputable def f69v2_w1N (k : Nat) (c66 : (PV → R) → R) (c71 : PV → Int → (Bool → Int → R) → R) (ret0 : PV → Int → R) (p2 : PV) (n5 : Int) (l6 : List PV) (n7 : Int) : R := loopR (f69v2_w1B k c66 c71 ret0 p2) k (n5, l6, n7)
theorem f69v2_w1_eq (k : Nat) (c66 : (PV → R) → R) (c71 : PV → Int → (Bool → Int → R) → R) (retF : PV × Int → R) (p2 : PV) (n5 : Int) (l6 : List PV) (n7 : Int) : f69v2_w1A k c66 c71 retF p2 n5 l6 n7 = f69v2_w1N k c66 c71 (fun y0 y1 => retF (y0, y1)) p2 n5 l6 n7 :=
  Eq.mp (by kernel_rfl) (loop_sim (E := (f69v2_E k c66 c71)) (c := f69v2_cw1) (K := (kont (f69v2_E k c66 c71) f69v2_code [1, 1, 0, 1, 0] (endK (f69v2_E k c66 c71) Try.f69 [2001000] f69v2_un retF))) (S := Int × (List PV) × Int) (fun s => f69v2_hw1_0 p2 s.1 s.2.1 s.2.2) (f69v2_w1B k c66 c71 (fun y0 y1 => retF (y0, y1)) p2) (fun NX s => by
    exact Eq.mp (by kernel_rfl) (f69v2_w1b0_eq k c66 c71 retF NX p2 s.1 s.2.1 s.2.2)) k (n5, l6, n7))

noncomputable def f69v2_e (c66 : (PV → R) → R) (c71 : PV → Int → (Bool → Int → R) → R) (ret0 : PV → Int → R) (w1 : PV → Int → (List PV) → Int → R) (n1 : Int) : R :=
  c66 fun p2 =>
  w1 p2 0 [] n1

theorem f69v2_e_mem (k : Nat) (c66 : (PV → R) → R) (c71 : PV → Int → (Bool → Int → R) → R) (retF : PV × Int → R) (n1 : Int) : exec (f69v2_E k c66 c71) f69v2_code (endK (f69v2_E k c66 c71) Try.f69 [2001000] f69v2_un retF) ⟨[.fn 71 [.ptr 2001000 []], .undef, .undef, .undef, .undef, .undef, .undef, .undef, .undef, .undef, .undef, .undef, .undef, .undef, .undef, .undef, .undef, .undef, .undef, .undef, .undef, .undef, .undef], [(2001000, .box 5 (.int .u8 n1))]⟩ = f69v2_e c66 c71 (fun y0 y1 => retF (y0, y1)) (fun p2 n5 l6 n7 => f69v2_w1A k c66 c71 retF p2 n5 l6 n7) n1 := by kernel_rfl

noncomputable def f69v2_N (k : Nat) (c66 : (PV → R) → R) (c71 : PV → Int → (Bool → Int → R) → R) (ret0 : PV → Int → R) (n1 : Int) : R :=
  f69v2_e c66 c71 ret0 (fun p2 n5 l6 n7 => f69v2_w1N k c66 c71 ret0 p2 n5 l6 n7) n1
theorem f69v2_eq (k : Nat) (c66 : (PV → R) → R) (c71 : PV → Int → (Bool → Int → R) → R) (retF : PV × Int → R) (n1 : Int) : exec (f69v2_E k c66 c71) f69v2_code (endK (f69v2_E k c66 c71) Try.f69 [2001000] f69v2_un retF) ⟨[.fn 71 [.ptr 2001000 []], .undef, .undef, .undef, .undef, .undef, .undef, .undef, .undef, .undef, .undef, .undef, .undef, .undef, .undef, .undef, .undef, .undef, .undef, .undef, .undef, .undef, .undef], [(2001000, .box 5 (.int .u8 n1))]⟩ = f69v2_N k c66 c71 (fun y0 y1 => retF (y0, y1)) n1 :=
  (f69v2_e_mem k c66 c71 retF n1).trans (by rw [show (fun p2 n5 l6 n7 => f69v2_w1A k c66 c71 retF p2 n5 l6 n7) = (fun p2 n5 l6 n7 => f69v2_w1N k c66 c71 (fun y0 y1 => retF (y0, y1)) p2 n5 l6 n7) from funext fun p2 => funext fun n5 => funext fun l6 => funext fun n7 => f69v2_w1_eq k c66 c71 retF p2 n5 l6 n7]; rfl)

noncomputable def G69v2 : Nat → Int → (PV → Int → R) → R
  | 0, _, _ => none
  | k + 1, n1, ret0 => f69v2_N k (G66 k) (G71 k) ret0 n1
theorem S69v2 : ∀ k, Snd Try.prog 69 f69v2_I f69v2_O (fun x ret => G69v2 k x (fun y0 y1 => ret (y0, y1)))
  | 0 => snd_none
  | k + 1 => snd_step (E := f69v2_E k (G66 k) (G71 k)) rfl laidOut noNums (orc_ok (S66 k).o f66_D_ok (orc_ok (S71 k).o f71_D_ok orc0_ok)) (f := 69) (fn := Try.f69) (code := f69v2_code) Try.func69 (by kernel_rfl) (drawsOk_of laidOut (orc_ok (S66 k).o f66_D_ok (orc_ok (S71 k).o f71_D_ok orc0_ok)) mixed (by kernel_rfl)) f69v2_un f69v2_un_ok [2001000] (fun _ => rfl)
      (fun x ret => f69v2_eq k (G66 k) (G71 k) ret x)

/- catchpole/class.In -/
noncomputable def f43_I : Int → List SV × Obs := fun x => ([.int .u8 x], [])
noncomputable def f43_D : List SV → Obs → Option (Int)
  | [.int .u8 n1], [] => some n1
  | _, _ => none
theorem f43_D_ok (args : List SV) (B : Obs) (x : Int) (h : f43_D args B = some x) : f43_I x = (args, B) := by
  unfold f43_D at h
  split at h
  · injection h with h; subst h; rfl
  · cases h
noncomputable def f43_O : PV → Out := (fun y => ([.val 64 y], []))
noncomputable def f43_un : Out → Option (PV)
  | ([.val 64 y0], []) => some y0
  | _ => none
theorem f43_un_ok (o : Out) (y : PV) (h : f43_un o = some y) : o = f43_O y := by
  unfold f43_un at h
  split at h
  · injection h with h; subst h; rfl
  · cases h
noncomputable def f43_msk : Nat → Option (List Nat) := fun key =>  none
noncomputable def f43_C (c69v2 : Int → (PV → Int → R) → R) : Oracle := orc 69 f69v2_D f69v2_O (fun x ret => c69v2 x (fun y0 y1 => ret (y0, y1))) <| orc0
noncomputable def f43_E (k : Nat) (c69v2 : Int → (PV → Int → R) → R) : Env := { P := Try.prog, nilOwn := fun d => false, fldOwn := fun d i => false, ownPar := ownPars, ownRet := false, mask := f43_msk, fuel := k, C := f43_C c69v2 }
noncomputable def f43_code : Code := Try.f43.body.getD .skip
noncomputable def f43_e (c69v2 : Int → (PV → Int → R) → R) (ret0 : PV → R) (n1 : Int) : R :=
  c69v2 n1 fun p2 n3 =>
  ret0 p2

theorem f43_e_mem (k : Nat) (c69v2 : Int → (PV → Int → R) → R) (retF : PV → R) (n1 : Int) : exec (f43_E k c69v2) f43_code (endK (f43_E k c69v2) Try.f43 [] f43_un retF) ⟨[.int .u8 n1, .undef, .undef, .undef, .undef], []⟩ = f43_e c69v2 (fun y0 => retF y0) n1 := by kernel_rfl

noncomputable def f43_N (k : Nat) (c69v2 : Int → (PV → Int → R) → R) (ret0 : PV → R) (n1 : Int) : R :=
  f43_e c69v2 ret0 n1
theorem f43_eq (k : Nat) (c69v2 : Int → (PV → Int → R) → R) (retF : PV → R) (n1 : Int) : exec (f43_E k c69v2) f43_code (endK (f43_E k c69v2) Try.f43 [] f43_un retF) ⟨[.int .u8 n1, .undef, .undef, .undef, .undef], []⟩ = f43_N k c69v2 (fun y0 => retF y0) n1 :=
  (f43_e_mem k c69v2 retF n1)

noncomputable def G43 : Nat → Int → (PV → R) → R
  | 0, _, _ => none
  | k + 1, n1, ret0 => f43_N k (G69v2 k) ret0 n1
theorem S43 : ∀ k, Snd Try.prog 43 f43_I f43_O (fun x ret => G43 k x (fun y0 => ret y0))
  | 0 => snd_none
  | k + 1 => snd_step (E := f43_E k (G69v2 k)) rfl laidOut noNums (orc_ok (S69v2 k).o f69v2_D_ok orc0_ok) (f := 43) (fn := Try.f43) (code := f43_code) Try.func43 (by kernel_rfl) (drawsOk_of laidOut (orc_ok (S69v2 k).o f69v2_D_ok orc0_ok) mixed (by kernel_rfl)) f43_un f43_un_ok [] (fun _ => rfl)
      (fun x ret => f43_eq k (G69v2 k) ret x)

/- catchpole/catchpolelaw2.ClassSays -/
noncomputable def f9_I : (List Int) × PV × Int → List SV × Obs := fun x => ([.str x.1, .val 24 x.2.1, .int .u8 x.2.2], [])
noncomputable def f9_D : List SV → Obs → Option ((List Int) × PV × Int)
  | [.str s1, .val 24 p2, .int .u8 n3], [] => some (s1, p2, n3)
  | _, _ => none
theorem f9_D_ok (args : List SV) (B : Obs) (x : (List Int) × PV × Int) (h : f9_D args B = some x) : f9_I x = (args, B) := by
  unfold f9_D at h
  split at h
  · injection h with h; subst h; rfl
  · cases h
noncomputable def f9_O : Bool → Out := (fun y => ([.bool y], []))
noncomputable def f9_un : Out → Option (Bool)
  | ([.bool y0], []) => some y0
  | _ => none
theorem f9_un_ok (o : Out) (y : Bool) (h : f9_un o = some y) : o = f9_O y := by
  unfold f9_un at h
  split at h
  · injection h with h; subst h; rfl
  · cases h
noncomputable def f9_msk : Nat → Option (List Nat) := fun key => bif key == 33 then some [2, 7, 8, 9, 10, 11, 12, 13, 14, 15, 16, 17, 18] else none
noncomputable def f9_C (c37 : (Bool → R) → R) (c38 : (List Int) → (PV → Bool → R) → R) (c39 : (List Int) → (PV → Bool → R) → R) (c40 : PV → ((List Int) → Bool → R) → R) (c41 : PV → ((List Int) → Bool → R) → R) (c42 : PV → (PV → R) → R) (c43 : Int → (PV → R) → R) (c44 : (PV → R) → R) : Oracle := orc 37 f37_D f37_O (fun x ret => c37 (fun y0 => ret y0)) <| orc 38 f38_D f38_O (fun x ret => c38 x (fun y0 y1 => ret (y0, y1))) <| orc 39 f39_D f39_O (fun x ret => c39 x (fun y0 y1 => ret (y0, y1))) <| orc 40 f40_D f40_O (fun x ret => c40 x (fun y0 y1 => ret (y0, y1))) <| orc 41 f41_D f41_O (fun x ret => c41 x (fun y0 y1 => ret (y0, y1))) <| orc 42 f42_D f42_O (fun x ret => c42 x (fun y0 => ret y0)) <| orc 43 f43_D f43_O (fun x ret => c43 x (fun y0 => ret y0)) <| orc 44 f44_D f44_O (fun x ret => c44 (fun y0 => ret y0)) <| orc0
noncomputable def f9_E (k : Nat) (c37 : (Bool → R) → R) (c38 : (List Int) → (PV → Bool → R) → R) (c39 : (List Int) → (PV → Bool → R) → R) (c40 : PV → ((List Int) → Bool → R) → R) (c41 : PV → ((List Int) → Bool → R) → R) (c42 : PV → (PV → R) → R) (c43 : Int → (PV → R) → R) (c44 : (PV → R) → R) : Env := { P := Try.prog, nilOwn := fun d => false, fldOwn := fun d i => false, ownPar := ownPars, ownRet := false, mask := f9_msk, fuel := k, C := f9_C c37 c38 c39 c40 c41 c42 c43 c44 }
noncomputable def f9_code : Code := Try.f9.body.getD .skip
noncomputable def f9_cw1 : Code := subC f9_code [1, 1, 1, 1, 1, 1, 1, 1, 1, 0, 1, 0, 0]
noncomputable def f9_hw1_0 (n3 : Int) (p5 : PV) (b6 : Bool) (p7 : PV) (b8 : Bool) (s9 : List Int) (b10 : Bool) (s12 : List Int) (b13 : Bool) (p14 : PV) (p15 : PV) (n20 : Int) (n21 : Int) : St := ⟨[.dead, .dead, .int .u8 n3, .dead, .dead, .dead, .dead, .ptr 7 [], .bool b6, .ptr 9 [], .bool b8, .str s9, .bool b10, .str s12, .bool b13, .val 64 p14, .int .i64 n20, .val 64 p15, .int .i64 n21, .dead, .dead, .dead, .dead, .dead, .dead, .dead, .dead, .dead, .dead, .dead, .dead, .dead, .dead, .dead, .dead, .dead, .dead, .dead, .dead, .dead, .dead, .dead, .dead, .dead, .dead, .dead, .dead, .dead, .dead, .dead, .dead, .dead, .dead, .dead, .dead, .dead, .dead, .dead, .dead, .dead, .dead, .dead, .dead, .dead, .dead, .dead, .dead, .dead, .dead, .dead, .dead, .dead, .dead, .dead, .dead, .dead, .dead, .dead, .dead, .dead, .dead, .dead, .dead, .dead, .dead, .dead, .dead, .dead, .dead, .dead, .dead, .dead, .dead, .dead, .dead, .dead, .dead, .dead, .dead, .dead, .dead, .dead, .dead, .dead, .dead, .dead], [(7, .box 24 (.val 24 p5)), (9, .box 45 (.val 45 p7))]⟩
noncomputable def f9_w1A (k : Nat) (c37 : (Bool → R) → R) (c38 : (List Int) → (PV → Bool → R) → R) (c39 : (List Int) → (PV → Bool → R) → R) (c40 : PV → ((List Int) → Bool → R) → R) (c41 : PV → ((List Int) → Bool → R) → R) (c42 : PV → (PV → R) → R) (c43 : Int → (PV → R) → R) (c44 : (PV → R) → R) (retF : Bool → R) (n3 : Int) (p5 : PV) (b6 : Bool) (p7 : PV) (b8 : Bool) (s9 : List Int) (b10 : Bool) (s12 : List Int) (b13 : Bool) (p14 : PV) (p15 : PV) (n20 : Int) (n21 : Int) : R := loopM (f9_E k c37 c38 c39 c40 c41 c42 c43 c44) f9_cw1 (kont (f9_E k c37 c38 c39 c40 c41 c42 c43 c44) f9_code [1, 1, 1, 1, 1, 1, 1, 1, 1, 0, 1, 0] (endK (f9_E k c37 c38 c39 c40 c41 c42 c43 c44) Try.f9 [] f9_un retF)) k (f9_hw1_0 n3 p5 b6 p7 b8 s9 b10 s12 b13 p14 p15 n20 n21)
noncomputable def f9_w1b0 (c37 : (Bool → R) → R) (c38 : (List Int) → (PV → Bool → R) → R) (c39 : (List Int) → (PV → Bool → R) → R) (c40 : PV → ((List Int) → Bool → R) → R) (c41 : PV → ((List Int) → Bool → R) → R) (c42 : PV → (PV → R) → R) (c43 : Int → (PV → R) → R) (c44 : (PV → R) → R) (ret0 : Bool → R) (next_w1_0 : Int → Int → R) (n3 : Int) (p5 : PV) (b6 : Bool) (p7 : PV) (b8 : Bool) (s9 : List Int) (b10 : Bool) (s12 : List Int) (b13 : Bool) (p14 : PV) (p15 : PV) (n20 : Int) (n21 : Int) : R :=
  bif (decide (n21 < (List.length (PV.els p15) : Int))) then
    bif (true && decide ((0 : Int) ≤ n21) && decide (n21 < (List.length (PV.els p15) : Int))) then
      c39 (PV.chars (List.getD (PV.els p15) (n21).toNat PV.nil)) fun p22 b23 =>
      bif (true && decide ((0 : Int) ≤ n3) && decide (n3 < 256)) then
        bif (PV.tt (PV.fld p22 (n3).toNat)) then
          bif ((decide ((List.length (PV.els p14) : Int) ≤ n20)) == false) then
            bif (true && decide ((0 : Int) ≤ n20) && decide (n20 < (List.length (PV.els p14) : Int))) then
              bif (true && decide ((0 : Int) ≤ n21) && decide (n21 < (List.length (PV.els p15) : Int))) then
                let b24 : Bool := (!(decide (((PV.chars (List.getD (PV.els p14) (n20).toNat PV.nil)) : List Int) = (PV.chars (List.getD (PV.els p15) (n21).toNat PV.nil)))))
                bif b24 then
                  ret0 false
                else next_w1_0 (IntKind.wrap .i64 (n20 + (1 : Int))) (IntKind.wrap .i64 (n21 + (1 : Int)))
              else none
            else none
          else ret0 false
        else next_w1_0 n20 (IntKind.wrap .i64 (n21 + (1 : Int)))
      else none
    else none
  else c42 p5 fun p25 =>
  bif ((PV.beq p25 p7) == true) then
    bif ((b6 == b8) == true) then
      bif ((decide ((s9 : List Int) = s12)) == true) then
        bif ((b10 == b13) == true) then
          ret0 (decide (n20 = (List.length (PV.els p14) : Int)))
        else ret0 false
      else ret0 false
    else ret0 false
  else ret0 false

theorem f9_w1b0_mem (k : Nat) (c37 : (Bool → R) → R) (c38 : (List Int) → (PV → Bool → R) → R) (c39 : (List Int) → (PV → Bool → R) → R) (c40 : PV → ((List Int) → Bool → R) → R) (c41 : PV → ((List Int) → Bool → R) → R) (c42 : PV → (PV → R) → R) (c43 : Int → (PV → R) → R) (c44 : (PV → R) → R) (retF : Bool → R) (NX_w1 : St → R) (n3 : Int) (p5 : PV) (b6 : Bool) (p7 : PV) (b8 : Bool) (s9 : List Int) (b10 : Bool) (s12 : List Int) (b13 : Bool) (p14 : PV) (p15 : PV) (n20 : Int) (n21 : Int) : exec (f9_E k c37 c38 c39 c40 c41 c42 c43 c44) f9_cw1 (purgeK (f9_E k c37 c38 c39 c40 c41 c42 c43 c44) f9_cw1 (loopK NX_w1 (kont (f9_E k c37 c38 c39 c40 c41 c42 c43 c44) f9_code [1, 1, 1, 1, 1, 1, 1, 1, 1, 0, 1, 0] (endK (f9_E k c37 c38 c39 c40 c41 c42 c43 c44) Try.f9 [] f9_un retF)))) (f9_hw1_0 n3 p5 b6 p7 b8 s9 b10 s12 b13 p14 p15 n20 n21) = f9_w1b0 c37 c38 c39 c40 c41 c42 c43 c44 (fun y0 => retF y0) (fun n20 n21 => NX_w1 (f9_hw1_0 n3 p5 b6 p7 b8 s9 b10 s12 b13 p14 p15 n20 n21)) n3 p5 b6 p7 b8 s9 b10 s12 b13 p14 p15 n20 n21 := by kernel_rfl

noncomputable def f9_w1b0N (k : Nat) (c37 : (Bool → R) → R) (c38 : (List Int) → (PV → Bool → R) → R) (c39 : (List Int) → (PV → Bool → R) → R) (c40 : PV → ((List Int) → Bool → R) → R) (c41 : PV → ((List Int) → Bool → R) → R) (c42 : PV → (PV → R) → R) (c43 : Int → (PV → R) → R) (c44 : (PV → R) → R) (ret0 : Bool → R) (next_w1_0 : Int → Int → R) (n3 : Int) (p5 : PV) (b6 : Bool) (p7 : PV) (b8 : Bool) (s9 : List Int) (b10 : Bool) (s12 : List Int) (b13 : Bool) (p14 : PV) (p15 : PV) (n20 : Int) (n21 : Int) : R :=
  f9_w1b0 c37 c38 c39 c40 c41 c42 c43 c44 ret0 next_w1_0 n3 p5 b6 p7 b8 s9 b10 s12 b13 p14 p15 n20 n21
theorem f9_w1b0_eq (k : Nat) (c37 : (Bool → R) → R) (c38 : (List Int) → (PV → Bool → R) → R) (c39 : (List Int) → (PV → Bool → R) → R) (c40 : PV → ((List Int) → Bool → R) → R) (c41 : PV → ((List Int) → Bool → R) → R) (c42 : PV → (PV → R) → R) (c43 : Int → (PV → R) → R) (c44 : (PV → R) → R) (retF : Bool → R) (NX_w1 : St → R) (n3 : Int) (p5 : PV) (b6 : Bool) (p7 : PV) (b8 : Bool) (s9 : List Int) (b10 : Bool) (s12 : List Int) (b13 : Bool) (p14 : PV) (p15 : PV) (n20 : Int) (n21 : Int) : exec (f9_E k c37 c38 c39 c40 c41 c42 c43 c44) f9_cw1 (purgeK (f9_E k c37 c38 c39 c40 c41 c42 c43 c44) f9_cw1 (loopK NX_w1 (kont (f9_E k c37 c38 c39 c40 c41 c42 c43 c44) f9_code [1, 1, 1, 1, 1, 1, 1, 1, 1, 0, 1, 0] (endK (f9_E k c37 c38 c39 c40 c41 c42 c43 c44) Try.f9 [] f9_un retF)))) (f9_hw1_0 n3 p5 b6 p7 b8 s9 b10 s12 b13 p14 p15 n20 n21) = f9_w1b0N k c37 c38 c39 c40 c41 c42 c43 c44 (fun y0 => retF y0) (fun n20 n21 => NX_w1 (f9_hw1_0 n3 p5 b6 p7 b8 s9 b10 s12 b13 p14 p15 n20 n21)) n3 p5 b6 p7 b8 s9 b10 s12 b13 p14 p15 n20 n21 :=
  (f9_w1b0_mem k c37 c38 c39 c40 c41 c42 c43 c44 retF NX_w1 n3 p5 b6 p7 b8 s9 b10 s12 b13 p14 p15 n20 n21)

noncomputable def f9_w1B (k : Nat) (c37 : (Bool → R) → R) (c38 : (List Int) → (PV → Bool → R) → R) (c39 : (List Int) → (PV → Bool → R) → R) (c40 : PV → ((List Int) → Bool → R) → R) (c41 : PV → ((List Int) → Bool → R) → R) (c42 : PV → (PV → R) → R) (c43 : Int → (PV → R) → R) (c44 : (PV → R) → R) (ret0 : Bool → R) (n3 : Int) (p5 : PV) (b6 : Bool) (p7 : PV) (b8 : Bool) (s9 : List Int) (b10 : Bool) (s12 : List Int) (b13 : Bool) (p14 : PV) (p15 : PV) (nx : Int × Int → R) : Int × Int → R := (fun s => f9_w1b0N k c37 c38 c39 c40 c41 c42 c43 c44 ret0 (fun n20 n21 => nx (n20, n21)) n3 p5 b6 p7 b8 s9 b10 s12 b13 p14 p15 s.1 s.2)
noncomputable def f9_w1N (k : Nat) (c37 : (Bool → R) → R) (c38 : (List Int) → (PV → Bool → R) → R) (c39 : (List Int) → (PV → Bool → R) → R) (c40 : PV → ((List Int) → Bool → R) → R) (c41 : PV → ((List Int) → Bool → R) → R) (c42 : PV → (PV → R) → R) (c43 : Int → (PV → R) → R) (c44 : (PV → R) → R) (ret0 : Bool → R) (n3 : Int) (p5 : PV) (b6 : Bool) (p7 : PV) (b8 : Bool) (s9 : List Int) (b10 : Bool) (s12 : List Int) (b13 : Bool) (p14 : PV) (p15 : PV) (n20 : Int) (n21 : Int) : R := loopR (f9_w1B k c37 c38 c39 c40 c41 c42 c43 c44 ret0 n3 p5 b6 p7 b8 s9 b10 s12 b13 p14 p15) k (n20, n21)
theorem f9_w1_eq (k : Nat) (c37 : (Bool → R) → R) (c38 : (List Int) → (PV → Bool → R) → R) (c39 : (List Int) → (PV → Bool → R) → R) (c40 : PV → ((List Int) → Bool → R) → R) (c41 : PV → ((List Int) → Bool → R) → R) (c42 : PV → (PV → R) → R) (c43 : Int → (PV → R) → R) (c44 : (PV → R) → R) (retF : Bool → R) (n3 : Int) (p5 : PV) (b6 : Bool) (p7 : PV) (b8 : Bool) (s9 : List Int) (b10 : Bool) (s12 : List Int) (b13 : Bool) (p14 : PV) (p15 : PV) (n20 : Int) (n21 : Int) : f9_w1A k c37 c38 c39 c40 c41 c42 c43 c44 retF n3 p5 b6 p7 b8 s9 b10 s12 b13 p14 p15 n20 n21 = f9_w1N k c37 c38 c39 c40 c41 c42 c43 c44 (fun y0 => retF y0) n3 p5 b6 p7 b8 s9 b10 s12 b13 p14 p15 n20 n21 :=
  Eq.mp (by kernel_rfl) (loop_sim (E := (f9_E k c37 c38 c39 c40 c41 c42 c43 c44)) (c := f9_cw1) (K := (kont (f9_E k c37 c38 c39 c40 c41 c42 c43 c44) f9_code [1, 1, 1, 1, 1, 1, 1, 1, 1, 0, 1, 0] (endK (f9_E k c37 c38 c39 c40 c41 c42 c43 c44) Try.f9 [] f9_un retF))) (S := Int × Int) (fun s => f9_hw1_0 n3 p5 b6 p7 b8 s9 b10 s12 b13 p14 p15 s.1 s.2) (f9_w1B k c37 c38 c39 c40 c41 c42 c43 c44 (fun y0 => retF y0) n3 p5 b6 p7 b8 s9 b10 s12 b13 p14 p15) (fun NX s => by
    exact Eq.mp (by kernel_rfl) (f9_w1b0_eq k c37 c38 c39 c40 c41 c42 c43 c44 retF NX n3 p5 b6 p7 b8 s9 b10 s12 b13 p14 p15 s.1 s.2)) k (n20, n21))

noncomputable def f9_e (c37 : (Bool → R) → R) (c38 : (List Int) → (PV → Bool → R) → R) (c39 : (List Int) → (PV → Bool → R) → R) (c40 : PV → ((List Int) → Bool → R) → R) (c41 : PV → ((List Int) → Bool → R) → R) (c42 : PV → (PV → R) → R) (c43 : Int → (PV → R) → R) (c44 : (PV → R) → R) (ret0 : Bool → R) (w1 : PV → Bool → PV → Bool → (List Int) → Bool → (List Int) → Bool → PV → PV → Int → Int → R) (s1 : List Int) (p2 : PV) (n3 : Int) : R :=
  c37 fun b4 =>
  bif (!b4) then
    ret0 false
  else c38 s1 fun p5 b6 =>
  c39 s1 fun p7 b8 =>
  c40 p2 fun s9 b10 =>
  c42 p2 fun p11 =>
  c41 p11 fun s12 b13 =>
  c43 n3 fun p14 =>
  c44 fun p15 =>
  w1 p5 b6 p7 b8 s9 b10 s12 b13 p14 p15 0 0

theorem f9_e_mem (k : Nat) (c37 : (Bool → R) → R) (c38 : (List Int) → (PV → Bool → R) → R) (c39 : (List Int) → (PV → Bool → R) → R) (c40 : PV → ((List Int) → Bool → R) → R) (c41 : PV → ((List Int) → Bool → R) → R) (c42 : PV → (PV → R) → R) (c43 : Int → (PV → R) → R) (c44 : (PV → R) → R) (retF : Bool → R) (s1 : List Int) (p2 : PV) (n3 : Int) : exec (f9_E k c37 c38 c39 c40 c41 c42 c43 c44) f9_code (endK (f9_E k c37 c38 c39 c40 c41 c42 c43 c44) Try.f9 [] f9_un retF) ⟨[.str s1, .val 24 p2, .int .u8 n3, .undef, .undef, .undef, .undef, .undef, .undef, .undef, .undef, .undef, .undef, .undef, .undef, .undef, .undef, .undef, .undef, .undef, .undef, .undef, .undef, .undef, .undef, .undef, .undef, .undef, .undef, .undef, .undef, .undef, .undef, .undef, .undef, .undef, .undef, .undef, .undef, .undef, .undef, .undef, .undef, .undef, .undef, .undef, .undef, .undef, .undef, .undef, .undef, .undef, .undef, .undef, .undef, .undef, .undef, .undef, .undef, .undef, .undef, .undef, .undef, .undef, .undef, .undef, .undef, .undef, .undef, .undef, .undef, .undef, .undef, .undef, .undef, .undef, .undef, .undef, .undef, .undef, .undef, .undef, .undef, .undef, .undef, .undef, .undef, .undef, .undef, .undef, .undef, .undef, .undef, .undef, .undef, .undef, .undef, .undef, .undef, .undef, .undef, .undef, .undef, .undef, .undef, .undef], []⟩ = f9_e c37 c38 c39 c40 c41 c42 c43 c44 (fun y0 => retF y0) (fun p5 b6 p7 b8 s9 b10 s12 b13 p14 p15 n20 n21 => f9_w1A k c37 c38 c39 c40 c41 c42 c43 c44 retF n3 p5 b6 p7 b8 s9 b10 s12 b13 p14 p15 n20 n21) s1 p2 n3 := by kernel_rfl

noncomputable def f9_N (k : Nat) (c37 : (Bool → R) → R) (c38 : (List Int) → (PV → Bool → R) → R) (c39 : (List Int) → (PV → Bool → R) → R) (c40 : PV → ((List Int) → Bool → R) → R) (c41 : PV → ((List Int) → Bool → R) → R) (c42 : PV → (PV → R) → R) (c43 : Int → (PV → R) → R) (c44 : (PV → R) → R) (ret0 : Bool → R) (s1 : List Int) (p2 : PV) (n3 : Int) : R :=
  f9_e c37 c38 c39 c40 c41 c42 c43 c44 ret0 (fun p5 b6 p7 b8 s9 b10 s12 b13 p14 p15 n20 n21 => f9_w1N k c37 c38 c39 c40 c41 c42 c43 c44 ret0 n3 p5 b6 p7 b8 s9 b10 s12 b13 p14 p15 n20 n21) s1 p2 n3
theorem f9_eq (k : Nat) (c37 : (Bool → R) → R) (c38 : (List Int) → (PV → Bool → R) → R) (c39 : (List Int) → (PV → Bool → R) → R) (c40 : PV → ((List Int) → Bool → R) → R) (c41 : PV → ((List Int) → Bool → R) → R) (c42 : PV → (PV → R) → R) (c43 : Int → (PV → R) → R) (c44 : (PV → R) → R) (retF : Bool → R) (s1 : List Int) (p2 : PV) (n3 : Int) : exec (f9_E k c37 c38 c39 c40 c41 c42 c43 c44) f9_code (endK (f9_E k c37 c38 c39 c40 c41 c42 c43 c44) Try.f9 [] f9_un retF) ⟨[.str s1, .val 24 p2, .int .u8 n3, .undef, .undef, .undef, .undef, .undef, .undef, .undef, .undef, .undef, .undef, .undef, .undef, .undef, .undef, .undef, .undef, .undef, .undef, .undef, .undef, .undef, .undef, .undef, .undef, .undef, .undef, .undef, .undef, .undef, .undef, .undef, .undef, .undef, .undef, .undef, .undef, .undef, .undef, .undef, .undef, .undef, .undef, .undef, .undef, .undef, .undef, .undef, .undef, .undef, .undef, .undef, .undef, .undef, .undef, .undef, .undef, .undef, .undef, .undef, .undef, .undef, .undef, .undef, .undef, .undef, .undef, .undef, .undef, .undef, .undef, .undef, .undef, .undef, .undef, .undef, .undef, .undef, .undef, .undef, .undef, .undef, .undef, .undef, .undef, .undef, .undef, .undef, .undef, .undef, .undef, .undef, .undef, .undef, .undef, .undef, .undef, .undef, .undef, .undef, .undef, .undef, .undef, .undef], []⟩ = f9_N k c37 c38 c39 c40 c41 c42 c43 c44 (fun y0 => retF y0) s1 p2 n3 :=
  (f9_e_mem k c37 c38 c39 c40 c41 c42 c43 c44 retF s1 p2 n3).trans (by rw [show (fun p5 b6 p7 b8 s9 b10 s12 b13 p14 p15 n20 n21 => f9_w1A k c37 c38 c39 c40 c41 c42 c43 c44 retF n3 p5 b6 p7 b8 s9 b10 s12 b13 p14 p15 n20 n21) = (fun p5 b6 p7 b8 s9 b10 s12 b13 p14 p15 n20 n21 => f9_w1N k c37 c38 c39 c40 c41 c42 c43 c44 (fun y0 => retF y0) n3 p5 b6 p7 b8 s9 b10 s12 b13 p14 p15 n20 n21) from funext fun p5 => funext fun b6 => funext fun p7 => funext fun b8 => funext fun s9 => funext fun b10 => funext fun s12 => funext fun b13 => funext fun p14 => funext fun p15 => funext fun n20 => funext fun n21 => f9_w1_eq k c37 c38 c39 c40 c41 c42 c43 c44 retF n3 p5 b6 p7 b8 s9 b10 s12 b13 p14 p15 n20 n21]; rfl)

noncomputable def G9 : Nat → (List Int) → PV → Int → (Bool → R) → R
  | 0, _, _, _, _ => none
  | k + 1, s1, p2, n3, ret0 => f9_N k (G37 k) (G38 k) (G39 k) (G40 k) (G41 k) (G42 k) (G43 k) (G44 k) ret0 s1 p2 n3
theorem S9 : ∀ k, Snd Try.prog 9 f9_I f9_O (fun x ret => G9 k x.1 x.2.1 x.2.2 (fun y0 => ret y0))
  | 0 => snd_none
  | k + 1 => snd_step (E := f9_E k (G37 k) (G38 k) (G39 k) (G40 k) (G41 k) (G42 k) (G43 k) (G44 k)) rfl laidOut noNums (orc_ok (S37 k).o f37_D_ok (orc_ok (S38 k).o f38_D_ok (orc_ok (S39 k).o f39_D_ok (orc_ok (S40 k).o f40_D_ok (orc_ok (S41 k).o f41_D_ok (orc_ok (S42 k).o f42_D_ok (orc_ok (S43 k).o f43_D_ok (orc_ok (S44 k).o f44_D_ok orc0_ok)))))))) (f := 9) (fn := Try.f9) (code := f9_code) Try.func9 (by kernel_rfl) (drawsOk_of laidOut (orc_ok (S37 k).o f37_D_ok (orc_ok (S38 k).o f38_D_ok (orc_ok (S39 k).o f39_D_ok (orc_ok (S40 k).o f40_D_ok (orc_ok (S41 k).o f41_D_ok (orc_ok (S42 k).o f42_D_ok (orc_ok (S43 k).o f43_D_ok (orc_ok (S44 k).o f44_D_ok orc0_ok)))))))) mixed (by kernel_rfl)) f9_un f9_un_ok [] (fun _ => rfl)
      (fun x ret => f9_eq k (G37 k) (G38 k) (G39 k) (G40 k) (G41 k) (G42 k) (G43 k) (G44 k) ret x.1 x.2.1 x.2.2)

end Go.Proofs.Ytifnlmfhbepjcaa
