/- Functions of the program as Lean functions, each tied to the program by the kernel: catchpolelaw11.BitsSays, catchpolelaw11.BitsBack, catchpolelaw11.BitsFull -/
import Derived.Test.YtbellpoahhhmhaaF
set_option linter.unusedVariables false
set_option maxRecDepth 100000
namespace Go.Proofs.Ytbellpoahhhmhaa
open Go Go.X
/- catchpole/catchpoleref8.formed -/
noncomputable def f86_I : PV → List SV × Obs := fun x => ([.val 53 x], [])
noncomputable def f86_D : List SV → Obs → Option (PV)
  | [.val 53 p1], [] => some p1
  | _, _ => none
theorem f86_D_ok (args : List SV) (B : Obs) (x : PV) (h : f86_D args B = some x) : f86_I x = (args, B) := by
  unfold f86_D at h
  split at h
  · injection h with h; subst h; rfl
  · cases h
noncomputable def f86_O : Bool → Out := (fun y => ([.bool y], []))
noncomputable def f86_un : Out → Option (Bool)
  | ([.bool y0], []) => some y0
  | _ => none
theorem f86_un_ok (o : Out) (y : Bool) (h : f86_un o = some y) : o = f86_O y := by
  unfold f86_un at h
  split at h
  · injection h with h; subst h; rfl
  · cases h
noncomputable def f86_msk : Nat → Option (List Nat) := fun key => bif key == 12 then some [1, 3] else none
noncomputable def f86_C (c86 : PV → (Bool → R) → R) (c93 : Int → (Int → R) → R) : Oracle := orc 86 f86_D f86_O (fun x ret => c86 x (fun y0 => ret y0)) <| orc 93 f93_D f93_O (fun x ret => c93 x (fun y0 => ret y0)) <| orc0
noncomputable def f86_E (k : Nat) (c86 : PV → (Bool → R) → R) (c93 : Int → (Int → R) → R) : Env := { P := Try.prog, nilOwn := fun d => false, fldOwn := fun d i => false, ownPar := ownPars, ownRet := false, mask := f86_msk, fuel := k, C := f86_C c86 c93 }
noncomputable def f86_code : Code := Try.f86.body.getD .skip
noncomputable def f86_cw1 : Code := subC f86_code [1, 1, 0, 1, 0, 0]
noncomputable def f86_hw1_0 (p1 : PV) (n4 : Int) : St := ⟨[.dead, .ptr 1 [], .dead, .int .i64 n4, .dead, .dead, .dead, .dead, .dead, .dead, .dead, .dead, .dead, .dead, .dead, .dead, .dead, .dead, .dead, .dead, .dead, .dead, .dead, .dead, .dead, .dead, .dead, .dead, .dead, .dead, .dead, .dead, .dead, .dead, .dead, .dead, .dead, .dead, .dead, .dead, .dead, .dead, .dead, .dead, .dead, .dead, .dead, .dead, .dead, .dead, .dead, .dead, .dead, .dead, .dead, .dead, .dead, .dead, .dead, .dead, .dead, .dead, .dead, .dead, .dead, .dead, .dead, .dead, .dead, .dead, .dead], [(1, .box 53 (.val 53 p1))]⟩
noncomputable def f86_w1A (k : Nat) (c86 : PV → (Bool → R) → R) (c93 : Int → (Int → R) → R) (retF : Bool → R) (p1 : PV) (n4 : Int) : R := loopM (f86_E k c86 c93) f86_cw1 (kont (f86_E k c86 c93) f86_code [1, 1, 0, 1, 0] (endK (f86_E k c86 c93) Try.f86 [] f86_un retF)) k (f86_hw1_0 p1 n4)
noncomputable def f86_w1b0 (c86 : PV → (Bool → R) → R) (c93 : Int → (Int → R) → R) (ret0 : Bool → R) (next_w1_0 : Int → R) (p1 : PV) (n4 : Int) : R :=
  bif (decide (n4 < (List.length (PV.els (PV.fld p1 3)) : Int))) then
    bif (true && decide ((0 : Int) ≤ n4) && decide (n4 < (List.length (PV.els (PV.fld p1 3)) : Int))) then
      c86 (List.getD (PV.els (PV.fld p1 3)) (n4).toNat PV.nil) fun b5 =>
      bif (!b5) then
        ret0 false
      else next_w1_0 (IntKind.wrap .i64 (n4 + (1 : Int)))
    else none
  else ret0 true

theorem f86_w1b0_mem (k : Nat) (c86 : PV → (Bool → R) → R) (c93 : Int → (Int → R) → R) (retF : Bool → R) (NX_w1 : St → R) (p1 : PV) (n4 : Int) : exec (f86_E k c86 c93) f86_cw1 (purgeK (f86_E k c86 c93) f86_cw1 (loopK NX_w1 (kont (f86_E k c86 c93) f86_code [1, 1, 0, 1, 0] (endK (f86_E k c86 c93) Try.f86 [] f86_un retF)))) (f86_hw1_0 p1 n4) = f86_w1b0 c86 c93 (fun y0 => retF y0) (fun n4 => NX_w1 (f86_hw1_0 p1 n4)) p1 n4 := by kernel_rfl

noncomputable def f86_w1b0N (k : Nat) (c86 : PV → (Bool → R) → R) (c93 : Int → (Int → R) → R) (ret0 : Bool → R) (next_w1_0 : Int → R) (p1 : PV) (n4 : Int) : R :=
  f86_w1b0 c86 c93 ret0 next_w1_0 p1 n4
theorem f86_w1b0_eq (k : Nat) (c86 : PV → (Bool → R) → R) (c93 : Int → (Int → R) → R) (retF : Bool → R) (NX_w1 : St → R) (p1 : PV) (n4 : Int) : exec (f86_E k c86 c93) f86_cw1 (purgeK (f86_E k c86 c93) f86_cw1 (loopK NX_w1 (kont (f86_E k c86 c93) f86_code [1, 1, 0, 1, 0] (endK (f86_E k c86 c93) Try.f86 [] f86_un retF)))) (f86_hw1_0 p1 n4) = f86_w1b0N k c86 c93 (fun y0 => retF y0) (fun n4 => NX_w1 (f86_hw1_0 p1 n4)) p1 n4 :=
  (f86_w1b0_mem k c86 c93 retF NX_w1 p1 n4)

noncomputable def f86_w1B (k : Nat) (c86 : PV → (Bool → R) → R) (c93 : Int → (Int → R) → R) (ret0 : Bool → R) (p1 : PV) (nx : Int → R) : Int → R := (fun s => f86_w1b0N k c86 c93 ret0 (fun n4 => nx n4) p1 s)
noncomputable def f86_w1N (k : Nat) (c86 : PV → (Bool → R) → R) (c93 : Int → (Int → R) → R) (ret0 : Bool → R) (p1 : PV) (n4 : Int) : R := loopR (f86_w1B k c86 c93 ret0 p1) k n4
theorem f86_w1_eq (k : Nat) (c86 : PV → (Bool → R) → R) (c93 : Int → (Int → R) → R) (retF : Bool → R) (p1 : PV) (n4 : Int) : f86_w1A k c86 c93 retF p1 n4 = f86_w1N k c86 c93 (fun y0 => retF y0) p1 n4 :=
  Eq.mp (by kernel_rfl) (loop_sim (E := (f86_E k c86 c93)) (c := f86_cw1) (K := (kont (f86_E k c86 c93) f86_code [1, 1, 0, 1, 0] (endK (f86_E k c86 c93) Try.f86 [] f86_un retF))) (S := Int) (fun s => f86_hw1_0 p1 s) (f86_w1B k c86 c93 (fun y0 => retF y0) p1) (fun NX s => by
    exact Eq.mp (by kernel_rfl) (f86_w1b0_eq k c86 c93 retF NX p1 s)) k n4)

noncomputable def f86_cw2 : Code := subC f86_code [1, 1, 0, 1, 0, 0]
noncomputable def f86_hw2_0 (p1 : PV) (n7 : Int) : St := ⟨[.dead, .ptr 1 [], .dead, .int .i64 n7, .dead, .dead, .dead, .dead, .dead, .dead, .dead, .dead, .dead, .dead, .dead, .dead, .dead, .dead, .dead, .dead, .dead, .dead, .dead, .dead, .dead, .dead, .dead, .dead, .dead, .dead, .dead, .dead, .dead, .dead, .dead, .dead, .dead, .dead, .dead, .dead, .dead, .dead, .dead, .dead, .dead, .dead, .dead, .dead, .dead, .dead, .dead, .dead, .dead, .dead, .dead, .dead, .dead, .dead, .dead, .dead, .dead, .dead, .dead, .dead, .dead, .dead, .dead, .dead, .dead, .dead, .dead], [(1, .box 53 (.val 53 p1))]⟩
noncomputable def f86_w2A (k : Nat) (c86 : PV → (Bool → R) → R) (c93 : Int → (Int → R) → R) (retF : Bool → R) (p1 : PV) (n7 : Int) : R := loopM (f86_E k c86 c93) f86_cw2 (kont (f86_E k c86 c93) f86_code [1, 1, 0, 1, 0] (endK (f86_E k c86 c93) Try.f86 [] f86_un retF)) k (f86_hw2_0 p1 n7)
noncomputable def f86_w2b0 (c86 : PV → (Bool → R) → R) (c93 : Int → (Int → R) → R) (ret0 : Bool → R) (next_w2_0 : Int → R) (p1 : PV) (n7 : Int) : R :=
  bif (decide (n7 < (List.length (PV.els (PV.fld p1 3)) : Int))) then
    bif (true && decide ((0 : Int) ≤ n7) && decide (n7 < (List.length (PV.els (PV.fld p1 3)) : Int))) then
      c86 (List.getD (PV.els (PV.fld p1 3)) (n7).toNat PV.nil) fun b8 =>
      bif (!b8) then
        ret0 false
      else next_w2_0 (IntKind.wrap .i64 (n7 + (1 : Int)))
    else none
  else ret0 true

theorem f86_w2b0_mem (k : Nat) (c86 : PV → (Bool → R) → R) (c93 : Int → (Int → R) → R) (retF : Bool → R) (NX_w2 : St → R) (p1 : PV) (n7 : Int) : exec (f86_E k c86 c93) f86_cw2 (purgeK (f86_E k c86 c93) f86_cw2 (loopK NX_w2 (kont (f86_E k c86 c93) f86_code [1, 1, 0, 1, 0] (endK (f86_E k c86 c93) Try.f86 [] f86_un retF)))) (f86_hw2_0 p1 n7) = f86_w2b0 c86 c93 (fun y0 => retF y0) (fun n7 => NX_w2 (f86_hw2_0 p1 n7)) p1 n7 := by kernel_rfl

noncomputable def f86_w2b0N (k : Nat) (c86 : PV → (Bool → R) → R) (c93 : Int → (Int → R) → R) (ret0 : Bool → R) (next_w2_0 : Int → R) (p1 : PV) (n7 : Int) : R :=
  f86_w2b0 c86 c93 ret0 next_w2_0 p1 n7
theorem f86_w2b0_eq (k : Nat) (c86 : PV → (Bool → R) → R) (c93 : Int → (Int → R) → R) (retF : Bool → R) (NX_w2 : St → R) (p1 : PV) (n7 : Int) : exec (f86_E k c86 c93) f86_cw2 (purgeK (f86_E k c86 c93) f86_cw2 (loopK NX_w2 (kont (f86_E k c86 c93) f86_code [1, 1, 0, 1, 0] (endK (f86_E k c86 c93) Try.f86 [] f86_un retF)))) (f86_hw2_0 p1 n7) = f86_w2b0N k c86 c93 (fun y0 => retF y0) (fun n7 => NX_w2 (f86_hw2_0 p1 n7)) p1 n7 :=
  (f86_w2b0_mem k c86 c93 retF NX_w2 p1 n7)

noncomputable def f86_w2B (k : Nat) (c86 : PV → (Bool → R) → R) (c93 : Int → (Int → R) → R) (ret0 : Bool → R) (p1 : PV) (nx : Int → R) : Int → R := (fun s => f86_w2b0N k c86 c93 ret0 (fun n7 => nx n7) p1 s)
noncomputable def f86_w2N (k : Nat) (c86 : PV → (Bool → R) → R) (c93 : Int → (Int → R) → R) (ret0 : Bool → R) (p1 : PV) (n7 : Int) : R := loopR (f86_w2B k c86 c93 ret0 p1) k n7
theorem f86_w2_eq (k : Nat) (c86 : PV → (Bool → R) → R) (c93 : Int → (Int → R) → R) (retF : Bool → R) (p1 : PV) (n7 : Int) : f86_w2A k c86 c93 retF p1 n7 = f86_w2N k c86 c93 (fun y0 => retF y0) p1 n7 :=
  Eq.mp (by kernel_rfl) (loop_sim (E := (f86_E k c86 c93)) (c := f86_cw2) (K := (kont (f86_E k c86 c93) f86_code [1, 1, 0, 1, 0] (endK (f86_E k c86 c93) Try.f86 [] f86_un retF))) (S := Int) (fun s => f86_hw2_0 p1 s) (f86_w2B k c86 c93 (fun y0 => retF y0) p1) (fun NX s => by
    exact Eq.mp (by kernel_rfl) (f86_w2b0_eq k c86 c93 retF NX p1 s)) k n7)

noncomputable def f86_cw3 : Code := subC f86_code [1, 1, 0, 1, 0, 0]
noncomputable def f86_hw3_0 (p1 : PV) (n10 : Int) : St := ⟨[.dead, .ptr 1 [], .dead, .int .i64 n10, .dead, .dead, .dead, .dead, .dead, .dead, .dead, .dead, .dead, .dead, .dead, .dead, .dead, .dead, .dead, .dead, .dead, .dead, .dead, .dead, .dead, .dead, .dead, .dead, .dead, .dead, .dead, .dead, .dead, .dead, .dead, .dead, .dead, .dead, .dead, .dead, .dead, .dead, .dead, .dead, .dead, .dead, .dead, .dead, .dead, .dead, .dead, .dead, .dead, .dead, .dead, .dead, .dead, .dead, .dead, .dead, .dead, .dead, .dead, .dead, .dead, .dead, .dead, .dead, .dead, .dead, .dead], [(1, .box 53 (.val 53 p1))]⟩
noncomputable def f86_w3A (k : Nat) (c86 : PV → (Bool → R) → R) (c93 : Int → (Int → R) → R) (retF : Bool → R) (p1 : PV) (n10 : Int) : R := loopM (f86_E k c86 c93) f86_cw3 (kont (f86_E k c86 c93) f86_code [1, 1, 0, 1, 0] (endK (f86_E k c86 c93) Try.f86 [] f86_un retF)) k (f86_hw3_0 p1 n10)
noncomputable def f86_w3b0 (c86 : PV → (Bool → R) → R) (c93 : Int → (Int → R) → R) (ret0 : Bool → R) (next_w3_0 : Int → R) (p1 : PV) (n10 : Int) : R :=
  bif (decide (n10 < (List.length (PV.els (PV.fld p1 3)) : Int))) then
    bif (true && decide ((0 : Int) ≤ n10) && decide (n10 < (List.length (PV.els (PV.fld p1 3)) : Int))) then
      c86 (List.getD (PV.els (PV.fld p1 3)) (n10).toNat PV.nil) fun b11 =>
      bif (!b11) then
        ret0 false
      else next_w3_0 (IntKind.wrap .i64 (n10 + (1 : Int)))
    else none
  else ret0 true

theorem f86_w3b0_mem (k : Nat) (c86 : PV → (Bool → R) → R) (c93 : Int → (Int → R) → R) (retF : Bool → R) (NX_w3 : St → R) (p1 : PV) (n10 : Int) : exec (f86_E k c86 c93) f86_cw3 (purgeK (f86_E k c86 c93) f86_cw3 (loopK NX_w3 (kont (f86_E k c86 c93) f86_code [1, 1, 0, 1, 0] (endK (f86_E k c86 c93) Try.f86 [] f86_un retF)))) (f86_hw3_0 p1 n10) = f86_w3b0 c86 c93 (fun y0 => retF y0) (fun n10 => NX_w3 (f86_hw3_0 p1 n10)) p1 n10 := by kernel_rfl

noncomputable def f86_w3b0N (k : Nat) (c86 : PV → (Bool → R) → R) (c93 : Int → (Int → R) → R) (ret0 : Bool → R) (next_w3_0 : Int → R) (p1 : PV) (n10 : Int) : R :=
  f86_w3b0 c86 c93 ret0 next_w3_0 p1 n10
theorem f86_w3b0_eq (k : Nat) (c86 : PV → (Bool → R) → R) (c93 : Int → (Int → R) → R) (retF : Bool → R) (NX_w3 : St → R) (p1 : PV) (n10 : Int) : exec (f86_E k c86 c93) f86_cw3 (purgeK (f86_E k c86 c93) f86_cw3 (loopK NX_w3 (kont (f86_E k c86 c93) f86_code [1, 1, 0, 1, 0] (endK (f86_E k c86 c93) Try.f86 [] f86_un retF)))) (f86_hw3_0 p1 n10) = f86_w3b0N k c86 c93 (fun y0 => retF y0) (fun n10 => NX_w3 (f86_hw3_0 p1 n10)) p1 n10 :=
  (f86_w3b0_mem k c86 c93 retF NX_w3 p1 n10)

noncomputable def f86_w3B (k : Nat) (c86 : PV → (Bool → R) → R) (c93 : Int → (Int → R) → R) (ret0 : Bool → R) (p1 : PV) (nx : Int → R) : Int → R := (fun s => f86_w3b0N k c86 c93 ret0 (fun n10 => nx n10) p1 s)
noncomputable def f86_w3N (k : Nat) (c86 : PV → (Bool → R) → R) (c93 : Int → (Int → R) → R) (ret0 : Bool → R) (p1 : PV) (n10 : Int) : R := loopR (f86_w3B k c86 c93 ret0 p1) k n10
theorem f86_w3_eq (k : Nat) (c86 : PV → (Bool → R) → R) (c93 : Int → (Int → R) → R) (retF : Bool → R) (p1 : PV) (n10 : Int) : f86_w3A k c86 c93 retF p1 n10 = f86_w3N k c86 c93 (fun y0 => retF y0) p1 n10 :=
  Eq.mp (by kernel_rfl) (loop_sim (E := (f86_E k c86 c93)) (c := f86_cw3) (K := (kont (f86_E k c86 c93) f86_code [1, 1, 0, 1, 0] (endK (f86_E k c86 c93) Try.f86 [] f86_un retF))) (S := Int) (fun s => f86_hw3_0 p1 s) (f86_w3B k c86 c93 (fun y0 => retF y0) p1) (fun NX s => by
    exact Eq.mp (by kernel_rfl) (f86_w3b0_eq k c86 c93 retF NX p1 s)) k n10)

noncomputable def f86_cw4 : Code := subC f86_code [1, 1, 0, 1, 0, 0]
noncomputable def f86_hw4_0 (p1 : PV) (n13 : Int) : St := ⟨[.dead, .ptr 1 [], .dead, .int .i64 n13, .dead, .dead, .dead, .dead, .dead, .dead, .dead, .dead, .dead, .dead, .dead, .dead, .dead, .dead, .dead, .dead, .dead, .dead, .dead, .dead, .dead, .dead, .dead, .dead, .dead, .dead, .dead, .dead, .dead, .dead, .dead, .dead, .dead, .dead, .dead, .dead, .dead, .dead, .dead, .dead, .dead, .dead, .dead, .dead, .dead, .dead, .dead, .dead, .dead, .dead, .dead, .dead, .dead, .dead, .dead, .dead, .dead, .dead, .dead, .dead, .dead, .dead, .dead, .dead, .dead, .dead, .dead], [(1, .box 53 (.val 53 p1))]⟩
noncomputable def f86_w4A (k : Nat) (c86 : PV → (Bool → R) → R) (c93 : Int → (Int → R) → R) (retF : Bool → R) (p1 : PV) (n13 : Int) : R := loopM (f86_E k c86 c93) f86_cw4 (kont (f86_E k c86 c93) f86_code [1, 1, 0, 1, 0] (endK (f86_E k c86 c93) Try.f86 [] f86_un retF)) k (f86_hw4_0 p1 n13)
noncomputable def f86_w4b0 (c86 : PV → (Bool → R) → R) (c93 : Int → (Int → R) → R) (ret0 : Bool → R) (next_w4_0 : Int → R) (p1 : PV) (n13 : Int) : R :=
  bif (decide (n13 < (List.length (PV.els (PV.fld p1 3)) : Int))) then
    bif (true && decide ((0 : Int) ≤ n13) && decide (n13 < (List.length (PV.els (PV.fld p1 3)) : Int))) then
      c86 (List.getD (PV.els (PV.fld p1 3)) (n13).toNat PV.nil) fun b14 =>
      bif (!b14) then
        ret0 false
      else next_w4_0 (IntKind.wrap .i64 (n13 + (1 : Int)))
    else none
  else ret0 true

theorem f86_w4b0_mem (k : Nat) (c86 : PV → (Bool → R) → R) (c93 : Int → (Int → R) → R) (retF : Bool → R) (NX_w4 : St → R) (p1 : PV) (n13 : Int) : exec (f86_E k c86 c93) f86_cw4 (purgeK (f86_E k c86 c93) f86_cw4 (loopK NX_w4 (kont (f86_E k c86 c93) f86_code [1, 1, 0, 1, 0] (endK (f86_E k c86 c93) Try.f86 [] f86_un retF)))) (f86_hw4_0 p1 n13) = f86_w4b0 c86 c93 (fun y0 => retF y0) (fun n13 => NX_w4 (f86_hw4_0 p1 n13)) p1 n13 := by kernel_rfl

noncomputable def f86_w4b0N (k : Nat) (c86 : PV → (Bool → R) → R) (c93 : Int → (Int → R) → R) (ret0 : Bool → R) (next_w4_0 : Int → R) (p1 : PV) (n13 : Int) : R :=
  f86_w4b0 c86 c93 ret0 next_w4_0 p1 n13
theorem f86_w4b0_eq (k : Nat) (c86 : PV → (Bool → R) → R) (c93 : Int → (Int → R) → R) (retF : Bool → R) (NX_w4 : St → R) (p1 : PV) (n13 : Int) : exec (f86_E k c86 c93) f86_cw4 (purgeK (f86_E k c86 c93) f86_cw4 (loopK NX_w4 (kont (f86_E k c86 c93) f86_code [1, 1, 0, 1, 0] (endK (f86_E k c86 c93) Try.f86 [] f86_un retF)))) (f86_hw4_0 p1 n13) = f86_w4b0N k c86 c93 (fun y0 => retF y0) (fun n13 => NX_w4 (f86_hw4_0 p1 n13)) p1 n13 :=
  (f86_w4b0_mem k c86 c93 retF NX_w4 p1 n13)

noncomputable def f86_w4B (k : Nat) (c86 : PV → (Bool → R) → R) (c93 : Int → (Int → R) → R) (ret0 : Bool → R) (p1 : PV) (nx : Int → R) : Int → R := (fun s => f86_w4b0N k c86 c93 ret0 (fun n13 => nx n13) p1 s)
noncomputable def f86_w4N (k : Nat) (c86 : PV → (Bool → R) → R) (c93 : Int → (Int → R) → R) (ret0 : Bool → R) (p1 : PV) (n13 : Int) : R := loopR (f86_w4B k c86 c93 ret0 p1) k n13
theorem f86_w4_eq (k : Nat) (c86 : PV → (Bool → R) → R) (c93 : Int → (Int → R) → R) (retF : Bool → R) (p1 : PV) (n13 : Int) : f86_w4A k c86 c93 retF p1 n13 = f86_w4N k c86 c93 (fun y0 => retF y0) p1 n13 :=
  Eq.mp (by kernel_rfl) (loop_sim (E := (f86_E k c86 c93)) (c := f86_cw4) (K := (kont (f86_E k c86 c93) f86_code [1, 1, 0, 1, 0] (endK (f86_E k c86 c93) Try.f86 [] f86_un retF))) (S := Int) (fun s => f86_hw4_0 p1 s) (f86_w4B k c86 c93 (fun y0 => retF y0) p1) (fun NX s => by
    exact Eq.mp (by kernel_rfl) (f86_w4b0_eq k c86 c93 retF NX p1 s)) k n13)

noncomputable def f86_cw5 : Code := subC f86_code [1, 1, 0, 1, 0, 0]
noncomputable def f86_hw5_0 (p1 : PV) (n16 : Int) : St := ⟨[.dead, .ptr 1 [], .dead, .int .i64 n16, .dead, .dead, .dead, .dead, .dead, .dead, .dead, .dead, .dead, .dead, .dead, .dead, .dead, .dead, .dead, .dead, .dead, .dead, .dead, .dead, .dead, .dead, .dead, .dead, .dead, .dead, .dead, .dead, .dead, .dead, .dead, .dead, .dead, .dead, .dead, .dead, .dead, .dead, .dead, .dead, .dead, .dead, .dead, .dead, .dead, .dead, .dead, .dead, .dead, .dead, .dead, .dead, .dead, .dead, .dead, .dead, .dead, .dead, .dead, .dead, .dead, .dead, .dead, .dead, .dead, .dead, .dead], [(1, .box 53 (.val 53 p1))]⟩
noncomputable def f86_w5A (k : Nat) (c86 : PV → (Bool → R) → R) (c93 : Int → (Int → R) → R) (retF : Bool → R) (p1 : PV) (n16 : Int) : R := loopM (f86_E k c86 c93) f86_cw5 (kont (f86_E k c86 c93) f86_code [1, 1, 0, 1, 0] (endK (f86_E k c86 c93) Try.f86 [] f86_un retF)) k (f86_hw5_0 p1 n16)
noncomputable def f86_w5b0 (c86 : PV → (Bool → R) → R) (c93 : Int → (Int → R) → R) (ret0 : Bool → R) (next_w5_0 : Int → R) (p1 : PV) (n16 : Int) : R :=
  bif (decide (n16 < (List.length (PV.els (PV.fld p1 3)) : Int))) then
    bif (true && decide ((0 : Int) ≤ n16) && decide (n16 < (List.length (PV.els (PV.fld p1 3)) : Int))) then
      c86 (List.getD (PV.els (PV.fld p1 3)) (n16).toNat PV.nil) fun b17 =>
      bif (!b17) then
        ret0 false
      else next_w5_0 (IntKind.wrap .i64 (n16 + (1 : Int)))
    else none
  else ret0 true

theorem f86_w5b0_mem (k : Nat) (c86 : PV → (Bool → R) → R) (c93 : Int → (Int → R) → R) (retF : Bool → R) (NX_w5 : St → R) (p1 : PV) (n16 : Int) : exec (f86_E k c86 c93) f86_cw5 (purgeK (f86_E k c86 c93) f86_cw5 (loopK NX_w5 (kont (f86_E k c86 c93) f86_code [1, 1, 0, 1, 0] (endK (f86_E k c86 c93) Try.f86 [] f86_un retF)))) (f86_hw5_0 p1 n16) = f86_w5b0 c86 c93 (fun y0 => retF y0) (fun n16 => NX_w5 (f86_hw5_0 p1 n16)) p1 n16 := by kernel_rfl

noncomputable def f86_w5b0N (k : Nat) (c86 : PV → (Bool → R) → R) (c93 : Int → (Int → R) → R) (ret0 : Bool → R) (next_w5_0 : Int → R) (p1 : PV) (n16 : Int) : R :=
  f86_w5b0 c86 c93 ret0 next_w5_0 p1 n16
theorem f86_w5b0_eq (k : Nat) (c86 : PV → (Bool → R) → R) (c93 : Int → (Int → R) → R) (retF : Bool → R) (NX_w5 : St → R) (p1 : PV) (n16 : Int) : exec (f86_E k c86 c93) f86_cw5 (purgeK (f86_E k c86 c93) f86_cw5 (loopK NX_w5 (kont (f86_E k c86 c93) f86_code [1, 1, 0, 1, 0] (endK (f86_E k c86 c93) Try.f86 [] f86_un retF)))) (f86_hw5_0 p1 n16) = f86_w5b0N k c86 c93 (fun y0 => retF y0) (fun n16 => NX_w5 (f86_hw5_0 p1 n16)) p1 n16 :=
  (f86_w5b0_mem k c86 c93 retF NX_w5 p1 n16)

noncomputable def f86_w5B (k : Nat) (c86 : PV → (Bool → R) → R) (c93 : Int → (Int → R) → R) (ret0 : Bool → R) (p1 : PV) (nx : Int → R) : Int → R := (fun s => f86_w5b0N k c86 c93 ret0 (fun n16 => nx n16) p1 s)
noncomputable def f86_w5N (k : Nat) (c86 : PV → (Bool → R) → R) (c93 : Int → (Int → R) → R) (ret0 : Bool → R) (p1 : PV) (n16 : Int) : R := loopR (f86_w5B k c86 c93 ret0 p1) k n16
theorem f86_w5_eq (k : Nat) (c86 : PV → (Bool → R) → R) (c93 : Int → (Int → R) → R) (retF : Bool → R) (p1 : PV) (n16 : Int) : f86_w5A k c86 c93 retF p1 n16 = f86_w5N k c86 c93 (fun y0 => retF y0) p1 n16 :=
  Eq.mp (by kernel_rfl) (loop_sim (E := (f86_E k c86 c93)) (c := f86_cw5) (K := (kont (f86_E k c86 c93) f86_code [1, 1, 0, 1, 0] (endK (f86_E k c86 c93) Try.f86 [] f86_un retF))) (S := Int) (fun s => f86_hw5_0 p1 s) (f86_w5B k c86 c93 (fun y0 => retF y0) p1) (fun NX s => by
    exact Eq.mp (by kernel_rfl) (f86_w5b0_eq k c86 c93 retF NX p1 s)) k n16)

noncomputable def f86_cw6 : Code := subC f86_code [1, 1, 0, 1, 0, 0]
noncomputable def f86_hw6_0 (p1 : PV) (n19 : Int) : St := ⟨[.dead, .ptr 1 [], .dead, .int .i64 n19, .dead, .dead, .dead, .dead, .dead, .dead, .dead, .dead, .dead, .dead, .dead, .dead, .dead, .dead, .dead, .dead, .dead, .dead, .dead, .dead, .dead, .dead, .dead, .dead, .dead, .dead, .dead, .dead, .dead, .dead, .dead, .dead, .dead, .dead, .dead, .dead, .dead, .dead, .dead, .dead, .dead, .dead, .dead, .dead, .dead, .dead, .dead, .dead, .dead, .dead, .dead, .dead, .dead, .dead, .dead, .dead, .dead, .dead, .dead, .dead, .dead, .dead, .dead, .dead, .dead, .dead, .dead], [(1, .box 53 (.val 53 p1))]⟩
noncomputable def f86_w6A (k : Nat) (c86 : PV → (Bool → R) → R) (c93 : Int → (Int → R) → R) (retF : Bool → R) (p1 : PV) (n19 : Int) : R := loopM (f86_E k c86 c93) f86_cw6 (kont (f86_E k c86 c93) f86_code [1, 1, 0, 1, 0] (endK (f86_E k c86 c93) Try.f86 [] f86_un retF)) k (f86_hw6_0 p1 n19)
noncomputable def f86_w6b0 (c86 : PV → (Bool → R) → R) (c93 : Int → (Int → R) → R) (ret0 : Bool → R) (next_w6_0 : Int → R) (p1 : PV) (n19 : Int) : R :=
  bif (decide (n19 < (List.length (PV.els (PV.fld p1 3)) : Int))) then
    bif (true && decide ((0 : Int) ≤ n19) && decide (n19 < (List.length (PV.els (PV.fld p1 3)) : Int))) then
      c86 (List.getD (PV.els (PV.fld p1 3)) (n19).toNat PV.nil) fun b20 =>
      bif (!b20) then
        ret0 false
      else next_w6_0 (IntKind.wrap .i64 (n19 + (1 : Int)))
    else none
  else ret0 true

theorem f86_w6b0_mem (k : Nat) (c86 : PV → (Bool → R) → R) (c93 : Int → (Int → R) → R) (retF : Bool → R) (NX_w6 : St → R) (p1 : PV) (n19 : Int) : exec (f86_E k c86 c93) f86_cw6 (purgeK (f86_E k c86 c93) f86_cw6 (loopK NX_w6 (kont (f86_E k c86 c93) f86_code [1, 1, 0, 1, 0] (endK (f86_E k c86 c93) Try.f86 [] f86_un retF)))) (f86_hw6_0 p1 n19) = f86_w6b0 c86 c93 (fun y0 => retF y0) (fun n19 => NX_w6 (f86_hw6_0 p1 n19)) p1 n19 := by kernel_rfl

noncomputable def f86_w6b0N (k : Nat) (c86 : PV → (Bool → R) → R) (c93 : Int → (Int → R) → R) (ret0 : Bool → R) (next_w6_0 : Int → R) (p1 : PV) (n19 : Int) : R :=
  f86_w6b0 c86 c93 ret0 next_w6_0 p1 n19
theorem f86_w6b0_eq (k : Nat) (c86 : PV → (Bool → R) → R) (c93 : Int → (Int → R) → R) (retF : Bool → R) (NX_w6 : St → R) (p1 : PV) (n19 : Int) : exec (f86_E k c86 c93) f86_cw6 (purgeK (f86_E k c86 c93) f86_cw6 (loopK NX_w6 (kont (f86_E k c86 c93) f86_code [1, 1, 0, 1, 0] (endK (f86_E k c86 c93) Try.f86 [] f86_un retF)))) (f86_hw6_0 p1 n19) = f86_w6b0N k c86 c93 (fun y0 => retF y0) (fun n19 => NX_w6 (f86_hw6_0 p1 n19)) p1 n19 :=
  (f86_w6b0_mem k c86 c93 retF NX_w6 p1 n19)

noncomputable def f86_w6B (k : Nat) (c86 : PV → (Bool → R) → R) (c93 : Int → (Int → R) → R) (ret0 : Bool → R) (p1 : PV) (nx : Int → R) : Int → R := (fun s => f86_w6b0N k c86 c93 ret0 (fun n19 => nx n19) p1 s)
noncomputable def f86_w6N (k : Nat) (c86 : PV → (Bool → R) → R) (c93 : Int → (Int → R) → R) (ret0 : Bool → R) (p1 : PV) (n19 : Int) : R := loopR (f86_w6B k c86 c93 ret0 p1) k n19
theorem f86_w6_eq (k : Nat) (c86 : PV → (Bool → R) → R) (c93 : Int → (Int → R) → R) (retF : Bool → R) (p1 : PV) (n19 : Int) : f86_w6A k c86 c93 retF p1 n19 = f86_w6N k c86 c93 (fun y0 => retF y0) p1 n19 :=
  Eq.mp (by kernel_rfl) (loop_sim (E := (f86_E k c86 c93)) (c := f86_cw6) (K := (kont (f86_E k c86 c93) f86_code [1, 1, 0, 1, 0] (endK (f86_E k c86 c93) Try.f86 [] f86_un retF))) (S := Int) (fun s => f86_hw6_0 p1 s) (f86_w6B k c86 c93 (fun y0 => retF y0) p1) (fun NX s => by
    exact Eq.mp (by kernel_rfl) (f86_w6b0_eq k c86 c93 retF NX p1 s)) k n19)

noncomputable def f86_cw7 : Code := subC f86_code [1, 1, 0, 1, 0, 0]
noncomputable def f86_hw7_0 (p1 : PV) (n22 : Int) : St := ⟨[.dead, .ptr 1 [], .dead, .int .i64 n22, .dead, .dead, .dead, .dead, .dead, .dead, .dead, .dead, .dead, .dead, .dead, .dead, .dead, .dead, .dead, .dead, .dead, .dead, .dead, .dead, .dead, .dead, .dead, .dead, .dead, .dead, .dead, .dead, .dead, .dead, .dead, .dead, .dead, .dead, .dead, .dead, .dead, .dead, .dead, .dead, .dead, .dead, .dead, .dead, .dead, .dead, .dead, .dead, .dead, .dead, .dead, .dead, .dead, .dead, .dead, .dead, .dead, .dead, .dead, .dead, .dead, .dead, .dead, .dead, .dead, .dead, .dead], [(1, .box 53 (.val 53 p1))]⟩
noncomputable def f86_w7A (k : Nat) (c86 : PV → (Bool → R) → R) (c93 : Int → (Int → R) → R) (retF : Bool → R) (p1 : PV) (n22 : Int) : R := loopM (f86_E k c86 c93) f86_cw7 (kont (f86_E k c86 c93) f86_code [1, 1, 0, 1, 0] (endK (f86_E k c86 c93) Try.f86 [] f86_un retF)) k (f86_hw7_0 p1 n22)
noncomputable def f86_w7b0 (c86 : PV → (Bool → R) → R) (c93 : Int → (Int → R) → R) (ret0 : Bool → R) (next_w7_0 : Int → R) (p1 : PV) (n22 : Int) : R :=
  bif (decide (n22 < (List.length (PV.els (PV.fld p1 3)) : Int))) then
    bif (true && decide ((0 : Int) ≤ n22) && decide (n22 < (List.length (PV.els (PV.fld p1 3)) : Int))) then
      c86 (List.getD (PV.els (PV.fld p1 3)) (n22).toNat PV.nil) fun b23 =>
      bif (!b23) then
        ret0 false
      else next_w7_0 (IntKind.wrap .i64 (n22 + (1 : Int)))
    else none
  else ret0 true

theorem f86_w7b0_mem (k : Nat) (c86 : PV → (Bool → R) → R) (c93 : Int → (Int → R) → R) (retF : Bool → R) (NX_w7 : St → R) (p1 : PV) (n22 : Int) : exec (f86_E k c86 c93) f86_cw7 (purgeK (f86_E k c86 c93) f86_cw7 (loopK NX_w7 (kont (f86_E k c86 c93) f86_code [1, 1, 0, 1, 0] (endK (f86_E k c86 c93) Try.f86 [] f86_un retF)))) (f86_hw7_0 p1 n22) = f86_w7b0 c86 c93 (fun y0 => retF y0) (fun n22 => NX_w7 (f86_hw7_0 p1 n22)) p1 n22 := by kernel_rfl

noncomputable def f86_w7b0N (k : Nat) (c86 : PV → (Bool → R) → R) (c93 : Int → (Int → R) → R) (ret0 : Bool → R) (next_w7_0 : Int → R) (p1 : PV) (n22 : Int) : R :=
  f86_w7b0 c86 c93 ret0 next_w7_0 p1 n22
theorem f86_w7b0_eq (k : Nat) (c86 : PV → (Bool → R) → R) (c93 : Int → (Int → R) → R) (retF : Bool → R) (NX_w7 : St → R) (p1 : PV) (n22 : Int) : exec (f86_E k c86 c93) f86_cw7 (purgeK (f86_E k c86 c93) f86_cw7 (loopK NX_w7 (kont (f86_E k c86 c93) f86_code [1, 1, 0, 1, 0] (endK (f86_E k c86 c93) Try.f86 [] f86_un retF)))) (f86_hw7_0 p1 n22) = f86_w7b0N k c86 c93 (fun y0 => retF y0) (fun n22 => NX_w7 (f86_hw7_0 p1 n22)) p1 n22 :=
  (f86_w7b0_mem k c86 c93 retF NX_w7 p1 n22)

noncomputable def f86_w7B (k : Nat) (c86 : PV → (Bool → R) → R) (c93 : Int → (Int → R) → R) (ret0 : Bool → R) (p1 : PV) (nx : Int → R) : Int → R := (fun s => f86_w7b0N k c86 c93 ret0 (fun n22 => nx n22) p1 s)
noncomputable def f86_w7N (k : Nat) (c86 : PV → (Bool → R) → R) (c93 : Int → (Int → R) → R) (ret0 : Bool → R) (p1 : PV) (n22 : Int) : R := loopR (f86_w7B k c86 c93 ret0 p1) k n22
theorem f86_w7_eq (k : Nat) (c86 : PV → (Bool → R) → R) (c93 : Int → (Int → R) → R) (retF : Bool → R) (p1 : PV) (n22 : Int) : f86_w7A k c86 c93 retF p1 n22 = f86_w7N k c86 c93 (fun y0 => retF y0) p1 n22 :=
  Eq.mp (by kernel_rfl) (loop_sim (E := (f86_E k c86 c93)) (c := f86_cw7) (K := (kont (f86_E k c86 c93) f86_code [1, 1, 0, 1, 0] (endK (f86_E k c86 c93) Try.f86 [] f86_un retF))) (S := Int) (fun s => f86_hw7_0 p1 s) (f86_w7B k c86 c93 (fun y0 => retF y0) p1) (fun NX s => by
    exact Eq.mp (by kernel_rfl) (f86_w7b0_eq k c86 c93 retF NX p1 s)) k n22)

noncomputable def f86_cw8 : Code := subC f86_code [1, 1, 0, 1, 0, 0]
noncomputable def f86_hw8_0 (p1 : PV) (n25 : Int) : St := ⟨[.dead, .ptr 1 [], .dead, .int .i64 n25, .dead, .dead, .dead, .dead, .dead, .dead, .dead, .dead, .dead, .dead, .dead, .dead, .dead, .dead, .dead, .dead, .dead, .dead, .dead, .dead, .dead, .dead, .dead, .dead, .dead, .dead, .dead, .dead, .dead, .dead, .dead, .dead, .dead, .dead, .dead, .dead, .dead, .dead, .dead, .dead, .dead, .dead, .dead, .dead, .dead, .dead, .dead, .dead, .dead, .dead, .dead, .dead, .dead, .dead, .dead, .dead, .dead, .dead, .dead, .dead, .dead, .dead, .dead, .dead, .dead, .dead, .dead], [(1, .box 53 (.val 53 p1))]⟩
noncomputable def f86_w8A (k : Nat) (c86 : PV → (Bool → R) → R) (c93 : Int → (Int → R) → R) (retF : Bool → R) (p1 : PV) (n25 : Int) : R := loopM (f86_E k c86 c93) f86_cw8 (kont (f86_E k c86 c93) f86_code [1, 1, 0, 1, 0] (endK (f86_E k c86 c93) Try.f86 [] f86_un retF)) k (f86_hw8_0 p1 n25)
noncomputable def f86_w8b0 (c86 : PV → (Bool → R) → R) (c93 : Int → (Int → R) → R) (ret0 : Bool → R) (next_w8_0 : Int → R) (p1 : PV) (n25 : Int) : R :=
  bif (decide (n25 < (List.length (PV.els (PV.fld p1 3)) : Int))) then
    bif (true && decide ((0 : Int) ≤ n25) && decide (n25 < (List.length (PV.els (PV.fld p1 3)) : Int))) then
      c86 (List.getD (PV.els (PV.fld p1 3)) (n25).toNat PV.nil) fun b26 =>
      bif (!b26) then
        ret0 false
      else next_w8_0 (IntKind.wrap .i64 (n25 + (1 : Int)))
    else none
  else ret0 true

theorem f86_w8b0_mem (k : Nat) (c86 : PV → (Bool → R) → R) (c93 : Int → (Int → R) → R) (retF : Bool → R) (NX_w8 : St → R) (p1 : PV) (n25 : Int) : exec (f86_E k c86 c93) f86_cw8 (purgeK (f86_E k c86 c93) f86_cw8 (loopK NX_w8 (kont (f86_E k c86 c93) f86_code [1, 1, 0, 1, 0] (endK (f86_E k c86 c93) Try.f86 [] f86_un retF)))) (f86_hw8_0 p1 n25) = f86_w8b0 c86 c93 (fun y0 => retF y0) (fun n25 => NX_w8 (f86_hw8_0 p1 n25)) p1 n25 := by kernel_rfl

noncomputable def f86_w8b0N (k : Nat) (c86 : PV → (Bool → R) → R) (c93 : Int → (Int → R) → R) (ret0 : Bool → R) (next_w8_0 : Int → R) (p1 : PV) (n25 : Int) : R :=
  f86_w8b0 c86 c93 ret0 next_w8_0 p1 n25
theorem f86_w8b0_eq (k : Nat) (c86 : PV → (Bool → R) → R) (c93 : Int → (Int → R) → R) (retF : Bool → R) (NX_w8 : St → R) (p1 : PV) (n25 : Int) : exec (f86_E k c86 c93) f86_cw8 (purgeK (f86_E k c86 c93) f86_cw8 (loopK NX_w8 (kont (f86_E k c86 c93) f86_code [1, 1, 0, 1, 0] (endK (f86_E k c86 c93) Try.f86 [] f86_un retF)))) (f86_hw8_0 p1 n25) = f86_w8b0N k c86 c93 (fun y0 => retF y0) (fun n25 => NX_w8 (f86_hw8_0 p1 n25)) p1 n25 :=
  (f86_w8b0_mem k c86 c93 retF NX_w8 p1 n25)

noncomputable def f86_w8B (k : Nat) (c86 : PV → (Bool → R) → R) (c93 : Int → (Int → R) → R) (ret0 : Bool → R) (p1 : PV) (nx : Int → R) : Int → R := (fun s => f86_w8b0N k c86 c93 ret0 (fun n25 => nx n25) p1 s)
noncomputable def f86_w8N (k : Nat) (c86 : PV → (Bool → R) → R) (c93 : Int → (Int → R) → R) (ret0 : Bool → R) (p1 : PV) (n25 : Int) : R := loopR (f86_w8B k c86 c93 ret0 p1) k n25
theorem f86_w8_eq (k : Nat) (c86 : PV → (Bool → R) → R) (c93 : Int → (Int → R) → R) (retF : Bool → R) (p1 : PV) (n25 : Int) : f86_w8A k c86 c93 retF p1 n25 = f86_w8N k c86 c93 (fun y0 => retF y0) p1 n25 :=
  Eq.mp (by kernel_rfl) (loop_sim (E := (f86_E k c86 c93)) (c := f86_cw8) (K := (kont (f86_E k c86 c93) f86_code [1, 1, 0, 1, 0] (endK (f86_E k c86 c93) Try.f86 [] f86_un retF))) (S := Int) (fun s => f86_hw8_0 p1 s) (f86_w8B k c86 c93 (fun y0 => retF y0) p1) (fun NX s => by
    exact Eq.mp (by kernel_rfl) (f86_w8b0_eq k c86 c93 retF NX p1 s)) k n25)

noncomputable def f86_e (c86 : PV → (Bool → R) → R) (c93 : Int → (Int → R) → R) (ret0 : Bool → R) (w1 : Int → R) (w2 : Int → R) (w3 : Int → R) (w4 : Int → R) (w5 : Int → R) (w6 : Int → R) (w7 : Int → R) (w8 : Int → R) (p1 : PV) : R :=
  bif ((decide ((PV.num (PV.fld p1 0)) < (0 : Int))) == false) then
    bif ((decide ((7 : Int) < (PV.num (PV.fld p1 0)))) == false) then
      c93 (PV.num (PV.fld p1 0)) fun n2 =>
      bif ((!(decide ((List.length (PV.els (PV.fld p1 3)) : Int) = n2))) == false) then
        bif ((!(decide ((PV.num (PV.fld p1 0)) = (2 : Int)))) == true) then
          bif ((!(PV.beq (PV.fld p1 1) (PV.agg (List.replicate 256 (PV.bool false))))) == false) then
            bif ((!(decide ((PV.num (PV.fld p1 0)) = (6 : Int)))) == true) then
              bif ((!(decide ((PV.num (PV.fld p1 2)) = (0 : Int)))) == false) then
                bif ((decide ((PV.num (PV.fld p1 0)) = (6 : Int))) == true) then
                  bif ((decide ((PV.num (PV.fld p1 2)) < (1 : Int))) == false) then
                    bif (decide ((32 : Int) < (PV.num (PV.fld p1 2)))) then
                      ret0 false
                    else w1 0
                  else ret0 false
                else w2 0
              else ret0 false
            else bif ((decide ((PV.num (PV.fld p1 0)) = (6 : Int))) == true) then
              bif ((decide ((PV.num (PV.fld p1 2)) < (1 : Int))) == false) then
                bif (decide ((32 : Int) < (PV.num (PV.fld p1 2)))) then
                  ret0 false
                else w3 0
              else ret0 false
            else w4 0
          else ret0 false
        else bif ((!(decide ((PV.num (PV.fld p1 0)) = (6 : Int)))) == true) then
          bif ((!(decide ((PV.num (PV.fld p1 2)) = (0 : Int)))) == false) then
            bif ((decide ((PV.num (PV.fld p1 0)) = (6 : Int))) == true) then
              bif ((decide ((PV.num (PV.fld p1 2)) < (1 : Int))) == false) then
                bif (decide ((32 : Int) < (PV.num (PV.fld p1 2)))) then
                  ret0 false
                else w5 0
              else ret0 false
            else w6 0
          else ret0 false
        else bif ((decide ((PV.num (PV.fld p1 0)) = (6 : Int))) == true) then
          bif ((decide ((PV.num (PV.fld p1 2)) < (1 : Int))) == false) then
            bif (decide ((32 : Int) < (PV.num (PV.fld p1 2)))) then
              ret0 false
            else w7 0
          else ret0 false
        else w8 0
      else ret0 false
    else ret0 false
  else ret0 false

theorem f86_e_mem (k : Nat) (c86 : PV → (Bool → R) → R) (c93 : Int → (Int → R) → R) (retF : Bool → R) (p1 : PV) : exec (f86_E k c86 c93) f86_code (endK (f86_E k c86 c93) Try.f86 [] f86_un retF) ⟨[.val 53 p1, .undef, .undef, .undef, .undef, .undef, .undef, .undef, .undef, .undef, .undef, .undef, .undef, .undef, .undef, .undef, .undef, .undef, .undef, .undef, .undef, .undef, .undef, .undef, .undef, .undef, .undef, .undef, .undef, .undef, .undef, .undef, .undef, .undef, .undef, .undef, .undef, .undef, .undef, .undef, .undef, .undef, .undef, .undef, .undef, .undef, .undef, .undef, .undef, .undef, .undef, .undef, .undef, .undef, .undef, .undef, .undef, .undef, .undef, .undef, .undef, .undef, .undef, .undef, .undef, .undef, .undef, .undef, .undef, .undef, .undef], []⟩ = f86_e c86 c93 (fun y0 => retF y0) (fun n4 => f86_w1A k c86 c93 retF p1 n4) (fun n7 => f86_w2A k c86 c93 retF p1 n7) (fun n10 => f86_w3A k c86 c93 retF p1 n10) (fun n13 => f86_w4A k c86 c93 retF p1 n13) (fun n16 => f86_w5A k c86 c93 retF p1 n16) (fun n19 => f86_w6A k c86 c93 retF p1 n19) (fun n22 => f86_w7A k c86 c93 retF p1 n22) (fun n25 => f86_w8A k c86 c93 retF p1 n25) p1 := by kernel_rfl

noncomputable def f86_N (k : Nat) (c86 : PV → (Bool → R) → R) (c93 : Int → (Int → R) → R) (ret0 : Bool → R) (p1 : PV) : R :=
  f86_e c86 c93 ret0 (fun n4 => f86_w1N k c86 c93 ret0 p1 n4) (fun n7 => f86_w2N k c86 c93 ret0 p1 n7) (fun n10 => f86_w3N k c86 c93 ret0 p1 n10) (fun n13 => f86_w4N k c86 c93 ret0 p1 n13) (fun n16 => f86_w5N k c86 c93 ret0 p1 n16) (fun n19 => f86_w6N k c86 c93 ret0 p1 n19) (fun n22 => f86_w7N k c86 c93 ret0 p1 n22) (fun n25 => f86_w8N k c86 c93 ret0 p1 n25) p1
theorem f86_eq (k : Nat) (c86 : PV → (Bool → R) → R) (c93 : Int → (Int → R) → R) (retF : Bool → R) (p1 : PV) : exec (f86_E k c86 c93) f86_code (endK (f86_E k c86 c93) Try.f86 [] f86_un retF) ⟨[.val 53 p1, .undef, .undef, .undef, .undef, .undef, .undef, .undef, .undef, .undef, .undef, .undef, .undef, .undef, .undef, .undef, .undef, .undef, .undef, .undef, .undef, .undef, .undef, .undef, .undef, .undef, .undef, .undef, .undef, .undef, .undef, .undef, .undef, .undef, .undef, .undef, .undef, .undef, .undef, .undef, .undef, .undef, .undef, .undef, .undef, .undef, .undef, .undef, .undef, .undef, .undef, .undef, .undef, .undef, .undef, .undef, .undef, .undef, .undef, .undef, .undef, .undef, .undef, .undef, .undef, .undef, .undef, .undef, .undef, .undef, .undef], []⟩ = f86_N k c86 c93 (fun y0 => retF y0) p1 :=
  (f86_e_mem k c86 c93 retF p1).trans (by rw [show (fun n4 => f86_w1A k c86 c93 retF p1 n4) = (fun n4 => f86_w1N k c86 c93 (fun y0 => retF y0) p1 n4) from funext fun n4 => f86_w1_eq k c86 c93 retF p1 n4, show (fun n7 => f86_w2A k c86 c93 retF p1 n7) = (fun n7 => f86_w2N k c86 c93 (fun y0 => retF y0) p1 n7) from funext fun n7 => f86_w2_eq k c86 c93 retF p1 n7, show (fun n10 => f86_w3A k c86 c93 retF p1 n10) = (fun n10 => f86_w3N k c86 c93 (fun y0 => retF y0) p1 n10) from funext fun n10 => f86_w3_eq k c86 c93 retF p1 n10, show (fun n13 => f86_w4A k c86 c93 retF p1 n13) = (fun n13 => f86_w4N k c86 c93 (fun y0 => retF y0) p1 n13) from funext fun n13 => f86_w4_eq k c86 c93 retF p1 n13, show (fun n16 => f86_w5A k c86 c93 retF p1 n16) = (fun n16 => f86_w5N k c86 c93 (fun y0 => retF y0) p1 n16) from funext fun n16 => f86_w5_eq k c86 c93 retF p1 n16, show (fun n19 => f86_w6A k c86 c93 retF p1 n19) = (fun n19 => f86_w6N k c86 c93 (fun y0 => retF y0) p1 n19) from funext fun n19 => f86_w6_eq k c86 c93 retF p1 n19, show (fun n22 => f86_w7A k c86 c93 retF p1 n22) = (fun n22 => f86_w7N k c86 c93 (fun y0 => retF y0) p1 n22) from funext fun n22 => f86_w7_eq k c86 c93 retF p1 n22, show (fun n25 => f86_w8A k c86 c93 retF p1 n25) = (fun n25 => f86_w8N k c86 c93 (fun y0 => retF y0) p1 n25) from funext fun n25 => f86_w8_eq k c86 c93 retF p1 n25]; rfl)

noncomputable def G86 : Nat → PV → (Bool → R) → R
  | 0, _, _ => none
  | k + 1, p1, ret0 => f86_N k (G86 k) (G93 k) ret0 p1
theorem S86 : ∀ k, Snd Try.prog 86 f86_I f86_O (fun x ret => G86 k x (fun y0 => ret y0))
  | 0 => snd_none
  | k + 1 => snd_step (E := f86_E k (G86 k) (G93 k)) rfl laidOut noNums (orc_ok (S86 k).o f86_D_ok (orc_ok (S93 k).o f93_D_ok orc0_ok)) (f := 86) (fn := Try.f86) (code := f86_code) Try.func86 (by kernel_rfl) (drawsOk_of laidOut (orc_ok (S86 k).o f86_D_ok (orc_ok (S93 k).o f93_D_ok orc0_ok)) mixed (by kernel_rfl)) f86_un f86_un_ok [] (fun _ => rfl)
      (fun x ret => f86_eq k (G86 k) (G93 k) ret x)

/- catchpole/catchpoleref8.Good -/
noncomputable def f67_I : PV → List SV × Obs := fun x => ([.val 53 x], [])
noncomputable def f67_D : List SV → Obs → Option (PV)
  | [.val 53 p1], [] => some p1
  | _, _ => none
theorem f67_D_ok (args : List SV) (B : Obs) (x : PV) (h : f67_D args B = some x) : f67_I x = (args, B) := by
  unfold f67_D at h
  split at h
  · injection h with h; subst h; rfl
  · cases h
noncomputable def f67_O : Bool → Out := (fun y => ([.bool y], []))
noncomputable def f67_un : Out → Option (Bool)
  | ([.bool y0], []) => some y0
  | _ => none
theorem f67_un_ok (o : Out) (y : Bool) (h : f67_un o = some y) : o = f67_O y := by
  unfold f67_un at h
  split at h
  · injection h with h; subst h; rfl
  · cases h
noncomputable def f67_msk : Nat → Option (List Nat) := fun key =>  none
noncomputable def f67_C (c84 : PV → Int → (Int → R) → R) (c85 : PV → Int → (Int → R) → R) (c86 : PV → (Bool → R) → R) : Oracle := orc 84 f84_D f84_O (fun x ret => c84 x.1 x.2 (fun y0 => ret y0)) <| orc 85 f85_D f85_O (fun x ret => c85 x.1 x.2 (fun y0 => ret y0)) <| orc 86 f86_D f86_O (fun x ret => c86 x (fun y0 => ret y0)) <| orc0
noncomputable def f67_E (k : Nat) (c84 : PV → Int → (Int → R) → R) (c85 : PV → Int → (Int → R) → R) (c86 : PV → (Bool → R) → R) : Env := { P := Try.prog, nilOwn := fun d => false, fldOwn := fun d i => false, ownPar := ownPars, ownRet := false, mask := f67_msk, fuel := k, C := f67_C c84 c85 c86 }
noncomputable def f67_code : Code := Try.f67.body.getD .skip
noncomputable def f67_e (c84 : PV → Int → (Int → R) → R) (c85 : PV → Int → (Int → R) → R) (c86 : PV → (Bool → R) → R) (ret0 : Bool → R) (p1 : PV) : R :=
  c84 p1 2001 fun n2 =>
  bif ((decide (n2 ≤ (2000 : Int))) == true) then
    c85 p1 8000 fun n3 =>
    bif ((decide (n3 ≤ (8000 : Int))) == true) then
      c86 p1 fun b4 =>
      ret0 b4
    else ret0 false
  else ret0 false

theorem f67_e_mem (k : Nat) (c84 : PV → Int → (Int → R) → R) (c85 : PV → Int → (Int → R) → R) (c86 : PV → (Bool → R) → R) (retF : Bool → R) (p1 : PV) : exec (f67_E k c84 c85 c86) f67_code (endK (f67_E k c84 c85 c86) Try.f67 [] f67_un retF) ⟨[.val 53 p1, .undef, .undef, .undef, .undef, .undef, .undef, .undef, .undef, .undef, .undef, .undef, .undef, .undef, .undef], []⟩ = f67_e c84 c85 c86 (fun y0 => retF y0) p1 := by kernel_rfl

noncomputable def f67_N (k : Nat) (c84 : PV → Int → (Int → R) → R) (c85 : PV → Int → (Int → R) → R) (c86 : PV → (Bool → R) → R) (ret0 : Bool → R) (p1 : PV) : R :=
  f67_e c84 c85 c86 ret0 p1
theorem f67_eq (k : Nat) (c84 : PV → Int → (Int → R) → R) (c85 : PV → Int → (Int → R) → R) (c86 : PV → (Bool → R) → R) (retF : Bool → R) (p1 : PV) : exec (f67_E k c84 c85 c86) f67_code (endK (f67_E k c84 c85 c86) Try.f67 [] f67_un retF) ⟨[.val 53 p1, .undef, .undef, .undef, .undef, .undef, .undef, .undef, .undef, .undef, .undef, .undef, .undef, .undef, .undef], []⟩ = f67_N k c84 c85 c86 (fun y0 => retF y0) p1 :=
  (f67_e_mem k c84 c85 c86 retF p1)

noncomputable def G67 : Nat → PV → (Bool → R) → R
  | 0, _, _ => none
  | k + 1, p1, ret0 => f67_N k (G84 k) (G85 k) (G86 k) ret0 p1
theorem S67 : ∀ k, Snd Try.prog 67 f67_I f67_O (fun x ret => G67 k x (fun y0 => ret y0))
  | 0 => snd_none
  | k + 1 => snd_step (E := f67_E k (G84 k) (G85 k) (G86 k)) rfl laidOut noNums (orc_ok (S84 k).o f84_D_ok (orc_ok (S85 k).o f85_D_ok (orc_ok (S86 k).o f86_D_ok orc0_ok))) (f := 67) (fn := Try.f67) (code := f67_code) Try.func67 (by kernel_rfl) (drawsOk_of laidOut (orc_ok (S84 k).o f84_D_ok (orc_ok (S85 k).o f85_D_ok (orc_ok (S86 k).o f86_D_ok orc0_ok))) mixed (by kernel_rfl)) f67_un f67_un_ok [] (fun _ => rfl)
      (fun x ret => f67_eq k (G84 k) (G85 k) (G86 k) ret x)

/- catchpole/catchpoleref8.got -/
noncomputable def f72_I : PV × (List Int) × PV → List SV × Obs := fun x => ([.val 53 x.1, .str x.2.1, .val 43 x.2.2], [])
noncomputable def f72_D : List SV → Obs → Option (PV × (List Int) × PV)
  | [.val 53 p1, .str s2, .val 43 p3], [] => some (p1, s2, p3)
  | _, _ => none
theorem f72_D_ok (args : List SV) (B : Obs) (x : PV × (List Int) × PV) (h : f72_D args B = some x) : f72_I x = (args, B) := by
  unfold f72_D at h
  split at h
  · injection h with h; subst h; rfl
  · cases h
noncomputable def f72_O : PV × (List Int) × PV × Bool → Out := (fun y => ([.val 57 y.1, .str y.2.1, .val 43 y.2.2.1, .bool y.2.2.2], []))
noncomputable def f72_un : Out → Option (PV × (List Int) × PV × Bool)
  | ([.val 57 y0, .str y1, .val 43 y2, .bool y3], []) => some (y0, y1, y2, y3)
  | _ => none
theorem f72_un_ok (o : Out) (y : PV × (List Int) × PV × Bool) (h : f72_un o = some y) : o = f72_O y := by
  unfold f72_un at h
  split at h
  · injection h with h; subst h; rfl
  · cases h
noncomputable def f72_msk : Nat → Option (List Nat) := fun key => bif key == 66 then some [1, 2, 3, 6, 22] else none
noncomputable def f72_C (c72 : PV → (List Int) → PV → (PV → (List Int) → PV → Bool → R) → R) : Oracle := orc 72 f72_D f72_O (fun x ret => c72 x.1 x.2.1 x.2.2 (fun y0 y1 y2 y3 => ret (y0, y1, y2, y3))) <| orc0
noncomputable def f72_E (k : Nat) (c72 : PV → (List Int) → PV → (PV → (List Int) → PV → Bool → R) → R) : Env := { P := Try.prog, nilOwn := fun d => false, fldOwn := fun d i => (d == 35 && i == 2) || (d == 52 && i == 2) || (d == 58 && i == 2) || (d == 78 && i == 2) || (d == 115 && i == 2) || (d == 146 && i == 2) || (d == 177 && i == 2) || (d == 196 && i == 2) || (d == 236 && i == 2), ownPar := ownPars, ownRet := false, mask := f72_msk, fuel := k, C := f72_C c72 }
noncomputable def f72_code : Code := Try.f72.body.getD .skip
noncomputable def f72_cw1 : Code := subC f72_code [1, 0, 1, 0, 1, 1, 1, 1, 1, 1, 1, 1, 1, 0, 1, 0, 0, 0]
noncomputable def f72_hw1_0 (p1 : PV) (s2 : List Int) (p3 : PV) : St := ⟨[.dead, .str s2, .val 43 p3, .ptr 3 [], .dead, .dead, .ptr 6 [], .dead, .dead, .dead, .dead, .dead, .dead, .dead, .dead, .dead, .dead, .dead, .dead, .dead, .dead, .dead, .ptr 22 [], .dead, .dead, .dead, .dead, .dead, .dead, .dead, .dead, .dead, .dead, .dead, .dead, .dead, .dead, .dead, .dead, .dead, .dead, .dead, .dead, .dead, .dead, .dead, .dead, .dead, .dead, .dead, .dead, .dead, .dead, .dead, .dead, .dead, .dead, .dead, .dead, .dead, .dead, .dead, .dead, .dead, .dead, .dead, .dead, .dead, .dead, .dead, .dead, .dead, .dead, .dead, .dead, .dead, .dead, .dead, .dead, .dead, .dead, .dead, .dead, .dead, .dead, .dead, .dead, .dead, .dead, .dead, .dead, .dead, .dead, .dead, .dead, .dead, .dead, .dead, .dead, .dead, .dead, .dead, .dead, .dead, .dead, .dead, .dead, .dead, .dead, .dead, .dead, .dead, .dead, .dead, .dead, .dead, .dead, .dead, .dead, .dead, .dead, .dead, .dead, .dead, .dead, .dead, .dead, .dead, .dead, .dead, .dead, .dead, .dead, .dead, .dead, .dead, .dead, .dead, .dead, .dead, .dead, .dead, .dead, .dead, .dead, .dead, .dead, .dead, .dead, .dead, .dead, .dead, .dead, .dead, .dead, .dead, .dead, .dead, .dead, .dead, .dead, .dead, .dead, .dead, .dead, .dead, .dead, .dead, .dead, .dead, .dead, .dead, .dead, .dead, .dead, .dead, .dead, .dead, .dead, .dead, .dead, .dead, .dead, .dead, .dead, .dead, .dead, .dead, .dead, .dead, .dead, .dead, .dead, .dead, .dead, .dead, .dead, .dead, .dead, .dead, .dead, .dead, .dead, .dead, .dead, .dead, .dead, .dead, .dead, .dead, .dead, .dead, .dead, .dead, .dead, .dead, .dead, .dead, .dead, .dead, .dead, .dead, .dead, .dead, .dead, .dead, .dead, .dead, .dead, .dead, .dead, .dead, .dead, .dead, .dead, .dead, .dead, .dead, .dead], [(3, .box 53 (.val 53 p1)), (6, .box 57 (.val 57 (PV.agg [(PV.int 0), (PV.int 0), (PV.list [])]))), (22, .box 57 (.agg 57 [.int .i64 6, .int .u8 0, .nils]))]⟩
noncomputable def f72_hw1_1 (p1 : PV) (s32 : List Int) (p33 : PV) (l34 : List PV) : St := ⟨[.dead, .str s32, .val 43 p33, .ptr 3 [], .dead, .dead, .ptr 6 [], .dead, .dead, .dead, .dead, .dead, .dead, .dead, .dead, .dead, .dead, .dead, .dead, .dead, .dead, .dead, .ptr 22 [], .dead, .dead, .dead, .dead, .dead, .dead, .dead, .dead, .dead, .dead, .dead, .dead, .dead, .dead, .dead, .dead, .dead, .dead, .dead, .dead, .dead, .dead, .dead, .dead, .dead, .dead, .dead, .dead, .dead, .dead, .dead, .dead, .dead, .dead, .dead, .dead, .dead, .dead, .dead, .dead, .dead, .dead, .dead, .dead, .dead, .dead, .dead, .dead, .dead, .dead, .dead, .dead, .dead, .dead, .dead, .dead, .dead, .dead, .dead, .dead, .dead, .dead, .dead, .dead, .dead, .dead, .dead, .dead, .dead, .dead, .dead, .dead, .dead, .dead, .dead, .dead, .dead, .dead, .dead, .dead, .dead, .dead, .dead, .dead, .dead, .dead, .dead, .dead, .dead, .dead, .dead, .dead, .dead, .dead, .dead, .dead, .dead, .dead, .dead, .dead, .dead, .dead, .dead, .dead, .dead, .dead, .dead, .dead, .dead, .dead, .dead, .dead, .dead, .dead, .dead, .dead, .dead, .dead, .dead, .dead, .dead, .dead, .dead, .dead, .dead, .dead, .dead, .dead, .dead, .dead, .dead, .dead, .dead, .dead, .dead, .dead, .dead, .dead, .dead, .dead, .dead, .dead, .dead, .dead, .dead, .dead, .dead, .dead, .dead, .dead, .dead, .dead, .dead, .dead, .dead, .dead, .dead, .dead, .dead, .dead, .dead, .dead, .dead, .dead, .dead, .dead, .dead, .dead, .dead, .dead, .dead, .dead, .dead, .dead, .dead, .dead, .dead, .dead, .dead, .dead, .dead, .dead, .dead, .dead, .dead, .dead, .dead, .dead, .dead, .dead, .dead, .dead, .dead, .dead, .dead, .dead, .dead, .dead, .dead, .dead, .dead, .dead, .dead, .dead, .dead, .dead, .dead, .dead, .dead, .dead, .dead, .dead, .dead, .dead, .dead, .dead], [(3, .box 53 (.val 53 p1)), (6, .box 57 (.val 57 (PV.agg [(PV.int 0), (PV.int 0), (PV.list [])]))), (22, .box 57 (.agg 57 [.int .i64 6, .int .u8 0, .own 55 184])), (184, .row 57 l34)]⟩
noncomputable def f72_w1A (k : Nat) (c72 : PV → (List Int) → PV → (PV → (List Int) → PV → Bool → R) → R) (retF : PV × (List Int) × PV × Bool → R) (p1 : PV) (s2 : List Int) (p3 : PV) : R := loopM (f72_E k c72) f72_cw1 (kont (f72_E k c72) f72_code [1, 0, 1, 0, 1, 1, 1, 1, 1, 1, 1, 1, 1, 0, 1, 0, 0] (endK (f72_E k c72) Try.f72 [] f72_un retF)) k (f72_hw1_0 p1 s2 p3)
noncomputable def f72_w1b0 (c72 : PV → (List Int) → PV → (PV → (List Int) → PV → Bool → R) → R) (ret0 : PV → (List Int) → PV → Bool → R) (next_w1_0 : Unit → R) (next_w1_1 : (List Int) → PV → (List PV) → R) (p1 : PV) (s2 : List Int) (p3 : PV) : R :=
  bif ((decide ((0 : Int) < (List.length s2 : Int))) == true) then
    bif (decide ((0 : Int) ≤ (0 : Int)) && decide ((0 : Int) < (List.length s2 : Int))) then
      bif (decide ((List.getD s2 ((0 : Int)).toNat 0) = (48 : Int))) then
        bif (true && decide ((0 : Int) ≤ (0 : Int)) && decide ((0 : Int) < (List.length (PV.els (PV.fld p1 3)) : Int))) then
          bif (decide ((0 : Int) ≤ (1 : Int)) && decide ((1 : Int) ≤ (List.length s2 : Int)) && decide ((List.length s2 : Int) ≤ (List.length s2 : Int))) then
            c72 (List.getD (PV.els (PV.fld p1 3)) ((0 : Int)).toNat PV.nil) (List.drop ((1 : Int)).toNat (List.take ((List.length s2 : Int)).toNat s2)) p3 fun p28 s29 p30 b31 =>
            bif ((!b31) == false) then
              bif (decide ((List.length (PV.els p30) : Int) = (List.length (PV.els p3) : Int))) then
                ret0 (PV.agg [(PV.int 0), (PV.int 0), (PV.list [])]) s2 p3 false
              else next_w1_1 s29 p30 [p28]
            else ret0 (PV.agg [(PV.int 0), (PV.int 0), (PV.list [])]) s2 p3 false
          else none
        else none
      else bif ((decide ((List.length s2 : Int) = (0 : Int))) == false) then
        bif (decide ((0 : Int) ≤ (0 : Int)) && decide ((0 : Int) < (List.length s2 : Int))) then
          bif (!(decide ((List.getD s2 ((0 : Int)).toNat 0) = (49 : Int)))) then
            ret0 (PV.agg [(PV.int 0), (PV.int 0), (PV.list [])]) s2 p3 false
          else bif (decide ((0 : Int) ≤ (1 : Int)) && decide ((1 : Int) ≤ (List.length s2 : Int)) && decide ((List.length s2 : Int) ≤ (List.length s2 : Int))) then
            ret0 (PV.agg [(PV.int 6), (PV.int 0), (PV.list [])]) (List.drop ((1 : Int)).toNat (List.take ((List.length s2 : Int)).toNat s2)) p3 true
          else none
        else none
      else ret0 (PV.agg [(PV.int 0), (PV.int 0), (PV.list [])]) s2 p3 false
    else none
  else bif ((decide ((List.length s2 : Int) = (0 : Int))) == false) then
    bif (decide ((0 : Int) ≤ (0 : Int)) && decide ((0 : Int) < (List.length s2 : Int))) then
      bif (!(decide ((List.getD s2 ((0 : Int)).toNat 0) = (49 : Int)))) then
        ret0 (PV.agg [(PV.int 0), (PV.int 0), (PV.list [])]) s2 p3 false
      else bif (decide ((0 : Int) ≤ (1 : Int)) && decide ((1 : Int) ≤ (List.length s2 : Int)) && decide ((List.length s2 : Int) ≤ (List.length s2 : Int))) then
        ret0 (PV.agg [(PV.int 6), (PV.int 0), (PV.list [])]) (List.drop ((1 : Int)).toNat (List.take ((List.length s2 : Int)).toNat s2)) p3 true
      else none
    else none
  else ret0 (PV.agg [(PV.int 0), (PV.int 0), (PV.list [])]) s2 p3 false

theorem f72_w1b0_mem (k : Nat) (c72 : PV → (List Int) → PV → (PV → (List Int) → PV → Bool → R) → R) (retF : PV × (List Int) × PV × Bool → R) (NX_w1 : St → R) (p1 : PV) (s2 : List Int) (p3 : PV) : exec (f72_E k c72) f72_cw1 (purgeK (f72_E k c72) f72_cw1 (loopK NX_w1 (kont (f72_E k c72) f72_code [1, 0, 1, 0, 1, 1, 1, 1, 1, 1, 1, 1, 1, 0, 1, 0, 0] (endK (f72_E k c72) Try.f72 [] f72_un retF)))) (f72_hw1_0 p1 s2 p3) = f72_w1b0 c72 (fun y0 y1 y2 y3 => retF (y0, y1, y2, y3)) (fun _ => NX_w1 (f72_hw1_0 p1 s2 p3)) (fun s32 p33 l34 => NX_w1 (f72_hw1_1 p1 s32 p33 l34)) p1 s2 p3 := by kernel_rfl

noncomputable def f72_w1b0N (k : Nat) (c72 : PV → (List Int) → PV → (PV → (List Int) → PV → Bool → R) → R) (ret0 : PV → (List Int) → PV → Bool → R) (next_w1_0 : Unit → R) (next_w1_1 : (List Int) → PV → (List PV) → R) (p1 : PV) (s2 : List Int) (p3 : PV) : R :=
  f72_w1b0 c72 ret0 next_w1_0 next_w1_1 p1 s2 p3
theorem f72_w1b0_eq (k : Nat) (c72 : PV → (List Int) → PV → (PV → (List Int) → PV → Bool → R) → R) (retF : PV × (List Int) × PV × Bool → R) (NX_w1 : St → R) (p1 : PV) (s2 : List Int) (p3 : PV) : exec (f72_E k c72) f72_cw1 (purgeK (f72_E k c72) f72_cw1 (loopK NX_w1 (kont (f72_E k c72) f72_code [1, 0, 1, 0, 1, 1, 1, 1, 1, 1, 1, 1, 1, 0, 1, 0, 0] (endK (f72_E k c72) Try.f72 [] f72_un retF)))) (f72_hw1_0 p1 s2 p3) = f72_w1b0N k c72 (fun y0 y1 y2 y3 => retF (y0, y1, y2, y3)) (fun _ => NX_w1 (f72_hw1_0 p1 s2 p3)) (fun s32 p33 l34 => NX_w1 (f72_hw1_1 p1 s32 p33 l34)) p1 s2 p3 :=
  (f72_w1b0_mem k c72 retF NX_w1 p1 s2 p3)

noncomputable def f72_w1b1 (c72 : PV → (List Int) → PV → (PV → (List Int) → PV → Bool → R) → R) (ret0 : PV → (List Int) → PV → Bool → R) (next_w1_0 : Unit → R) (next_w1_1 : (List Int) → PV → (List PV) → R) (p1 : PV) (s2 : List Int) (p3 : PV) (s32 : List Int) (p33 : PV) (l34 : List PV) : R :=
  bif ((decide ((0 : Int) < (List.length s32 : Int))) == true) then
    bif (decide ((0 : Int) ≤ (0 : Int)) && decide ((0 : Int) < (List.length s32 : Int))) then
      bif (decide ((List.getD s32 ((0 : Int)).toNat 0) = (48 : Int))) then
        bif (true && decide ((0 : Int) ≤ (0 : Int)) && decide ((0 : Int) < (List.length (PV.els (PV.fld p1 3)) : Int))) then
          bif (decide ((0 : Int) ≤ (1 : Int)) && decide ((1 : Int) ≤ (List.length s32 : Int)) && decide ((List.length s32 : Int) ≤ (List.length s32 : Int))) then
            c72 (List.getD (PV.els (PV.fld p1 3)) ((0 : Int)).toNat PV.nil) (List.drop ((1 : Int)).toNat (List.take ((List.length s32 : Int)).toNat s32)) p33 fun p35 s36 p37 b38 =>
            bif ((!b38) == false) then
              bif (decide ((List.length (PV.els p37) : Int) = (List.length (PV.els p33) : Int))) then
                ret0 (PV.agg [(PV.int 0), (PV.int 0), (PV.list [])]) s32 p33 false
              else bif (true && roomy (List.length l34 + List.length [p35]) 40) then
                next_w1_1 s36 p37 (l34 ++ [p35])
              else none
            else ret0 (PV.agg [(PV.int 0), (PV.int 0), (PV.list [])]) s32 p33 false
          else none
        else none
      else bif ((decide ((List.length s32 : Int) = (0 : Int))) == false) then
        bif (decide ((0 : Int) ≤ (0 : Int)) && decide ((0 : Int) < (List.length s32 : Int))) then
          bif (!(decide ((List.getD s32 ((0 : Int)).toNat 0) = (49 : Int)))) then
            ret0 (PV.agg [(PV.int 0), (PV.int 0), (PV.list [])]) s32 p33 false
          else bif (decide ((0 : Int) ≤ (1 : Int)) && decide ((1 : Int) ≤ (List.length s32 : Int)) && decide ((List.length s32 : Int) ≤ (List.length s32 : Int))) then
            ret0 (PV.agg [(PV.int 6), (PV.int 0), (PV.list l34)]) (List.drop ((1 : Int)).toNat (List.take ((List.length s32 : Int)).toNat s32)) p33 true
          else none
        else none
      else ret0 (PV.agg [(PV.int 0), (PV.int 0), (PV.list [])]) s32 p33 false
    else none
  else bif ((decide ((List.length s32 : Int) = (0 : Int))) == false) then
    bif (decide ((0 : Int) ≤ (0 : Int)) && decide ((0 : Int) < (List.length s32 : Int))) then
      bif (!(decide ((List.getD s32 ((0 : Int)).toNat 0) = (49 : Int)))) then
        ret0 (PV.agg [(PV.int 0), (PV.int 0), (PV.list [])]) s32 p33 false
      else bif (decide ((0 : Int) ≤ (1 : Int)) && decide ((1 : Int) ≤ (List.length s32 : Int)) && decide ((List.length s32 : Int) ≤ (List.length s32 : Int))) then
        ret0 (PV.agg [(PV.int 6), (PV.int 0), (PV.list l34)]) (List.drop ((1 : Int)).toNat (List.take ((List.length s32 : Int)).toNat s32)) p33 true
      else none
    else none
  else ret0 (PV.agg [(PV.int 0), (PV.int 0), (PV.list [])]) s32 p33 false

theorem f72_w1b1_mem (k : Nat) (c72 : PV → (List Int) → PV → (PV → (List Int) → PV → Bool → R) → R) (retF : PV × (List Int) × PV × Bool → R) (NX_w1 : St → R) (p1 : PV) (s2 : List Int) (p3 : PV) (s32 : List Int) (p33 : PV) (l34 : List PV) : exec (f72_E k c72) f72_cw1 (purgeK (f72_E k c72) f72_cw1 (loopK NX_w1 (kont (f72_E k c72) f72_code [1, 0, 1, 0, 1, 1, 1, 1, 1, 1, 1, 1, 1, 0, 1, 0, 0] (endK (f72_E k c72) Try.f72 [] f72_un retF)))) (f72_hw1_1 p1 s32 p33 l34) = f72_w1b1 c72 (fun y0 y1 y2 y3 => retF (y0, y1, y2, y3)) (fun _ => NX_w1 (f72_hw1_0 p1 s2 p3)) (fun s32 p33 l34 => NX_w1 (f72_hw1_1 p1 s32 p33 l34)) p1 s2 p3 s32 p33 l34 := by kernel_rfl

noncomputable def f72_w1b1N (k : Nat) (c72 : PV → (List Int) → PV → (PV → (List Int) → PV → Bool → R) → R) (ret0 : PV → (List Int) → PV → Bool → R) (next_w1_0 : Unit → R) (next_w1_1 : (List Int) → PV → (List PV) → R) (p1 : PV) (s2 : List Int) (p3 : PV) (s32 : List Int) (p33 : PV) (l34 : List PV) : R :=
  f72_w1b1 c72 ret0 next_w1_0 next_w1_1 p1 s2 p3 s32 p33 l34
theorem f72_w1b1_eq (k : Nat) (c72 : PV → (List Int) → PV → (PV → (List Int) → PV → Bool → R) → R) (retF : PV × (List Int) × PV × Bool → R) (NX_w1 : St → R) (p1 : PV) (s2 : List Int) (p3 : PV) (s32 : List Int) (p33 : PV) (l34 : List PV) : exec (f72_E k c72) f72_cw1 (purgeK (f72_E k c72) f72_cw1 (loopK NX_w1 (kont (f72_E k c72) f72_code [1, 0, 1, 0, 1, 1, 1, 1, 1, 1, 1, 1, 1, 0, 1, 0, 0] (endK (f72_E k c72) Try.f72 [] f72_un retF)))) (f72_hw1_1 p1 s32 p33 l34) = f72_w1b1N k c72 (fun y0 y1 y2 y3 => retF (y0, y1, y2, y3)) (fun _ => NX_w1 (f72_hw1_0 p1 s2 p3)) (fun s32 p33 l34 => NX_w1 (f72_hw1_1 p1 s32 p33 l34)) p1 s2 p3 s32 p33 l34 :=
  (f72_w1b1_mem k c72 retF NX_w1 p1 s2 p3 s32 p33 l34)

noncomputable def f72_w1B (k : Nat) (c72 : PV → (List Int) → PV → (PV → (List Int) → PV → Bool → R) → R) (ret0 : PV → (List Int) → PV → Bool → R) (p1 : PV) (s2 : List Int) (p3 : PV) (nx : Sum (Unit) ((List Int) × PV × (List PV)) → R) : Sum (Unit) ((List Int) × PV × (List PV)) → R := (Sum.elim (fun s => f72_w1b0N k c72 ret0 (fun _ => nx (.inl ())) (fun s32 p33 l34 => nx (.inr (s32, p33, l34))) p1 s2 p3) (fun s => f72_w1b1N k c72 ret0 (fun _ => nx (.inl ())) (fun s32 p33 l34 => nx (.inr (s32, p33, l34))) p1 s2 p3 s.1 s.2.1 s.2.2))
noncomputable def f72_w1N (k : Nat) (c72 : PV → (List Int) → PV → (PV → (List Int) → PV → Bool → R) → R) (ret0 : PV → (List Int) → PV → Bool → R) (p1 : PV) (s2 : List Int) (p3 : PV) : R := loopR (f72_w1B k c72 ret0 p1 s2 p3) k (.inl ())
theorem f72_w1_eq (k : Nat) (c72 : PV → (List Int) → PV → (PV → (List Int) → PV → Bool → R) → R) (retF : PV × (List Int) × PV × Bool → R) (p1 : PV) (s2 : List Int) (p3 : PV) : f72_w1A k c72 retF p1 s2 p3 = f72_w1N k c72 (fun y0 y1 y2 y3 => retF (y0, y1, y2, y3)) p1 s2 p3 :=
  Eq.mp (by kernel_rfl) (loop_sim (E := (f72_E k c72)) (c := f72_cw1) (K := (kont (f72_E k c72) f72_code [1, 0, 1, 0, 1, 1, 1, 1, 1, 1, 1, 1, 1, 0, 1, 0, 0] (endK (f72_E k c72) Try.f72 [] f72_un retF))) (S := Sum (Unit) ((List Int) × PV × (List PV))) (Sum.elim (fun s => f72_hw1_0 p1 s2 p3) (fun s => f72_hw1_1 p1 s.1 s.2.1 s.2.2)) (f72_w1B k c72 (fun y0 y1 y2 y3 => retF (y0, y1, y2, y3)) p1 s2 p3) (fun NX s => by
    cases s with
    | inl s => exact Eq.mp (by kernel_rfl) (f72_w1b0_eq k c72 retF NX p1 s2 p3)
    | inr s =>
      exact Eq.mp (by kernel_rfl) (f72_w1b1_eq k c72 retF NX p1 s2 p3 s.1 s.2.1 s.2.2)) k (.inl ()))

noncomputable def f72_e (c72 : PV → (List Int) → PV → (PV → (List Int) → PV → Bool → R) → R) (ret0 : PV → (List Int) → PV → Bool → R) (w1 : Unit → R) (p1 : PV) (s2 : List Int) (p3 : PV) : R :=
  bif (decide ((PV.num (PV.fld p1 0)) = (1 : Int))) then
    ret0 (PV.agg [(PV.int 1), (PV.int 0), (PV.list [])]) s2 p3 true
  else bif (decide ((PV.num (PV.fld p1 0)) = (2 : Int))) then
    bif ((decide ((List.length (PV.els p3) : Int) = (0 : Int))) == false) then
      bif (true && decide ((0 : Int) ≤ (0 : Int)) && decide ((0 : Int) < (List.length (PV.els p3) : Int))) then
        bif (true && decide ((0 : Int) ≤ (PV.num (List.getD (PV.els p3) ((0 : Int)).toNat PV.nil))) && decide ((PV.num (List.getD (PV.els p3) ((0 : Int)).toNat PV.nil)) < 256)) then
          bif (!(PV.tt (PV.fld (PV.fld p1 1) ((PV.num (List.getD (PV.els p3) ((0 : Int)).toNat PV.nil))).toNat))) then
            ret0 (PV.agg [(PV.int 0), (PV.int 0), (PV.list [])]) s2 p3 false
          else bif (true && decide ((0 : Int) ≤ (0 : Int)) && decide ((0 : Int) < (List.length (PV.els p3) : Int))) then
            bif (decide ((0 : Int) ≤ (1 : Int)) && decide ((1 : Int) ≤ (List.length (PV.els p3) : Int)) && decide ((List.length (PV.els p3) : Int) ≤ (List.length (PV.els p3) : Int))) then
              ret0 (PV.agg [(PV.int 2), (PV.int (PV.num (List.getD (PV.els p3) ((0 : Int)).toNat PV.nil))), (PV.list [])]) s2 (PV.list (List.drop ((1 : Int)).toNat (List.take ((List.length (PV.els p3) : Int)).toNat (PV.els p3)))) true
            else none
          else none
        else none
      else none
    else ret0 (PV.agg [(PV.int 0), (PV.int 0), (PV.list [])]) s2 p3 false
  else bif (decide ((PV.num (PV.fld p1 0)) = (3 : Int))) then
    bif (true && decide ((0 : Int) ≤ (0 : Int)) && decide ((0 : Int) < (List.length (PV.els (PV.fld p1 3)) : Int))) then
      c72 (List.getD (PV.els (PV.fld p1 3)) ((0 : Int)).toNat PV.nil) s2 p3 fun p4 s5 p6 b7 =>
      bif (!b7) then
        ret0 (PV.agg [(PV.int 0), (PV.int 0), (PV.list [])]) s2 p3 false
      else bif (true && decide ((0 : Int) ≤ (1 : Int)) && decide ((1 : Int) < (List.length (PV.els (PV.fld p1 3)) : Int))) then
        c72 (List.getD (PV.els (PV.fld p1 3)) ((1 : Int)).toNat PV.nil) s5 p6 fun p8 s9 p10 b11 =>
        ret0 (PV.agg [(PV.int 3), (PV.int 0), (PV.list [p4, p8])]) s9 p10 b11
      else none
    else none
  else bif (decide ((PV.num (PV.fld p1 0)) = (4 : Int))) then
    bif ((decide ((List.length s2 : Int) = (0 : Int))) == false) then
      bif (decide ((0 : Int) ≤ (0 : Int)) && decide ((0 : Int) < (List.length s2 : Int))) then
        bif ((!(decide ((List.getD s2 ((0 : Int)).toNat 0) = (48 : Int)))) == true) then
          bif (decide ((0 : Int) ≤ (0 : Int)) && decide ((0 : Int) < (List.length s2 : Int))) then
            bif (!(decide ((List.getD s2 ((0 : Int)).toNat 0) = (49 : Int)))) then
              ret0 (PV.agg [(PV.int 0), (PV.int 0), (PV.list [])]) s2 p3 false
            else bif (decide ((0 : Int) ≤ (0 : Int)) && decide ((0 : Int) < (List.length s2 : Int))) then
              bif (true && decide ((0 : Int) ≤ (IntKind.wrap .i64 (IntKind.wrap .u8 ((List.getD s2 ((0 : Int)).toNat 0) - (48 : Int))))) && decide ((IntKind.wrap .i64 (IntKind.wrap .u8 ((List.getD s2 ((0 : Int)).toNat 0) - (48 : Int)))) < (List.length (PV.els (PV.fld p1 3)) : Int))) then
                let p12 : PV := (List.getD (PV.els (PV.fld p1 3)) ((IntKind.wrap .i64 (IntKind.wrap .u8 ((List.getD s2 ((0 : Int)).toNat 0) - (48 : Int))))).toNat PV.nil)
                bif (decide ((0 : Int) ≤ (1 : Int)) && decide ((1 : Int) ≤ (List.length s2 : Int)) && decide ((List.length s2 : Int) ≤ (List.length s2 : Int))) then
                  c72 p12 (List.drop ((1 : Int)).toNat (List.take ((List.length s2 : Int)).toNat s2)) p3 fun p13 s14 p15 b16 =>
                  let n17 : Int := (IntKind.wrap .i64 ((4 : Int) + (IntKind.wrap .i64 (IntKind.wrap .u8 ((List.getD s2 ((0 : Int)).toNat 0) - (48 : Int))))))
                  ret0 (PV.agg [(PV.int n17), (PV.int 0), (PV.list [p13])]) s14 p15 b16
                else none
              else none
            else none
          else none
        else bif (decide ((0 : Int) ≤ (0 : Int)) && decide ((0 : Int) < (List.length s2 : Int))) then
          bif (true && decide ((0 : Int) ≤ (IntKind.wrap .i64 (IntKind.wrap .u8 ((List.getD s2 ((0 : Int)).toNat 0) - (48 : Int))))) && decide ((IntKind.wrap .i64 (IntKind.wrap .u8 ((List.getD s2 ((0 : Int)).toNat 0) - (48 : Int)))) < (List.length (PV.els (PV.fld p1 3)) : Int))) then
            let p18 : PV := (List.getD (PV.els (PV.fld p1 3)) ((IntKind.wrap .i64 (IntKind.wrap .u8 ((List.getD s2 ((0 : Int)).toNat 0) - (48 : Int))))).toNat PV.nil)
            bif (decide ((0 : Int) ≤ (1 : Int)) && decide ((1 : Int) ≤ (List.length s2 : Int)) && decide ((List.length s2 : Int) ≤ (List.length s2 : Int))) then
              c72 p18 (List.drop ((1 : Int)).toNat (List.take ((List.length s2 : Int)).toNat s2)) p3 fun p19 s20 p21 b22 =>
              let n23 : Int := (IntKind.wrap .i64 ((4 : Int) + (IntKind.wrap .i64 (IntKind.wrap .u8 ((List.getD s2 ((0 : Int)).toNat 0) - (48 : Int))))))
              ret0 (PV.agg [(PV.int n23), (PV.int 0), (PV.list [p19])]) s20 p21 b22
            else none
          else none
        else none
      else none
    else ret0 (PV.agg [(PV.int 0), (PV.int 0), (PV.list [])]) s2 p3 false
  else bif (decide ((PV.num (PV.fld p1 0)) = (5 : Int))) then
    w1 ()
  else bif (decide ((PV.num (PV.fld p1 0)) = (6 : Int))) then
    bif (true && decide ((0 : Int) ≤ (0 : Int)) && decide ((0 : Int) < (List.length (PV.els (PV.fld p1 3)) : Int))) then
      c72 (List.getD (PV.els (PV.fld p1 3)) ((0 : Int)).toNat PV.nil) s2 p3 fun p39 s40 p41 b42 =>
      ret0 (PV.agg [(PV.int 7), (PV.int 0), (PV.list [p39])]) s40 p41 b42
    else none
  else bif (decide ((PV.num (PV.fld p1 0)) = (7 : Int))) then
    bif (true && decide ((0 : Int) ≤ (0 : Int)) && decide ((0 : Int) < (List.length (PV.els (PV.fld p1 3)) : Int))) then
      c72 (List.getD (PV.els (PV.fld p1 3)) ((0 : Int)).toNat PV.nil) s2 p3 fun p43 s44 p45 b46 =>
      ret0 p43 s44 p45 b46
    else none
  else ret0 (PV.agg [(PV.int 0), (PV.int 0), (PV.list [])]) s2 p3 false

theorem f72_e_mem (k : Nat) (c72 : PV → (List Int) → PV → (PV → (List Int) → PV → Bool → R) → R) (retF : PV × (List Int) × PV × Bool → R) (p1 : PV) (s2 : List Int) (p3 : PV) : exec (f72_E k c72) f72_code (endK (f72_E k c72) Try.f72 [] f72_un retF) ⟨[.val 53 p1, .str s2, .val 43 p3, .undef, .undef, .undef, .undef, .undef, .undef, .undef, .undef, .undef, .undef, .undef, .undef, .undef, .undef, .undef, .undef, .undef, .undef, .undef, .undef, .undef, .undef, .undef, .undef, .undef, .undef, .undef, .undef, .undef, .undef, .undef, .undef, .undef, .undef, .undef, .undef, .undef, .undef, .undef, .undef, .undef, .undef, .undef, .undef, .undef, .undef, .undef, .undef, .undef, .undef, .undef, .undef, .undef, .undef, .undef, .undef, .undef, .undef, .undef, .undef, .undef, .undef, .undef, .undef, .undef, .undef, .undef, .undef, .undef, .undef, .undef, .undef, .undef, .undef, .undef, .undef, .undef, .undef, .undef, .undef, .undef, .undef, .undef, .undef, .undef, .undef, .undef, .undef, .undef, .undef, .undef, .undef, .undef, .undef, .undef, .undef, .undef, .undef, .undef, .undef, .undef, .undef, .undef, .undef, .undef, .undef, .undef, .undef, .undef, .undef, .undef, .undef, .undef, .undef, .undef, .undef, .undef, .undef, .undef, .undef, .undef, .undef, .undef, .undef, .undef, .undef, .undef, .undef, .undef, .undef, .undef, .undef, .undef, .undef, .undef, .undef, .undef, .undef, .undef, .undef, .undef, .undef, .undef, .undef, .undef, .undef, .undef, .undef, .undef, .undef, .undef, .undef, .undef, .undef, .undef, .undef, .undef, .undef, .undef, .undef, .undef, .undef, .undef, .undef, .undef, .undef, .undef, .undef, .undef, .undef, .undef, .undef, .undef, .undef, .undef, .undef, .undef, .undef, .undef, .undef, .undef, .undef, .undef, .undef, .undef, .undef, .undef, .undef, .undef, .undef, .undef, .undef, .undef, .undef, .undef, .undef, .undef, .undef, .undef, .undef, .undef, .undef, .undef, .undef, .undef, .undef, .undef, .undef, .undef, .undef, .undef, .undef, .undef, .undef, .undef, .undef, .undef, .undef, .undef, .undef, .undef, .undef, .undef, .undef, .undef, .undef, .undef, .undef, .undef, .undef, .undef, .undef, .undef, .undef, .undef, .undef], []⟩ = f72_e c72 (fun y0 y1 y2 y3 => retF (y0, y1, y2, y3)) (fun _ => f72_w1A k c72 retF p1 s2 p3) p1 s2 p3 := by kernel_rfl

noncomputable def f72_N (k : Nat) (c72 : PV → (List Int) → PV → (PV → (List Int) → PV → Bool → R) → R) (ret0 : PV → (List Int) → PV → Bool → R) (p1 : PV) (s2 : List Int) (p3 : PV) : R :=
  f72_e c72 ret0 (fun _ => f72_w1N k c72 ret0 p1 s2 p3) p1 s2 p3
theorem f72_eq (k : Nat) (c72 : PV → (List Int) → PV → (PV → (List Int) → PV → Bool → R) → R) (retF : PV × (List Int) × PV × Bool → R) (p1 : PV) (s2 : List Int) (p3 : PV) : exec (f72_E k c72) f72_code (endK (f72_E k c72) Try.f72 [] f72_un retF) ⟨[.val 53 p1, .str s2, .val 43 p3, .undef, .undef, .undef, .undef, .undef, .undef, .undef, .undef, .undef, .undef, .undef, .undef, .undef, .undef, .undef, .undef, .undef, .undef, .undef, .undef, .undef, .undef, .undef, .undef, .undef, .undef, .undef, .undef, .undef, .undef, .undef, .undef, .undef, .undef, .undef, .undef, .undef, .undef, .undef, .undef, .undef, .undef, .undef, .undef, .undef, .undef, .undef, .undef, .undef, .undef, .undef, .undef, .undef, .undef, .undef, .undef, .undef, .undef, .undef, .undef, .undef, .undef, .undef, .undef, .undef, .undef, .undef, .undef, .undef, .undef, .undef, .undef, .undef, .undef, .undef, .undef, .undef, .undef, .undef, .undef, .undef, .undef, .undef, .undef, .undef, .undef, .undef, .undef, .undef, .undef, .undef, .undef, .undef, .undef, .undef, .undef, .undef, .undef, .undef, .undef, .undef, .undef, .undef, .undef, .undef, .undef, .undef, .undef, .undef, .undef, .undef, .undef, .undef, .undef, .undef, .undef, .undef, .undef, .undef, .undef, .undef, .undef, .undef, .undef, .undef, .undef, .undef, .undef, .undef, .undef, .undef, .undef, .undef, .undef, .undef, .undef, .undef, .undef, .undef, .undef, .undef, .undef, .undef, .undef, .undef, .undef, .undef, .undef, .undef, .undef, .undef, .undef, .undef, .undef, .undef, .undef, .undef, .undef, .undef, .undef, .undef, .undef, .undef, .undef, .undef, .undef, .undef, .undef, .undef, .undef, .undef, .undef, .undef, .undef, .undef, .undef, .undef, .undef, .undef, .undef, .undef, .undef, .undef, .undef, .undef, .undef, .undef, .undef, .undef, .undef, .undef, .undef, .undef, .undef, .undef, .undef, .undef, .undef, .undef, .undef, .undef, .undef, .undef, .undef, .undef, .undef, .undef, .undef, .undef, .undef, .undef, .undef, .undef, .undef, .undef, .undef, .undef, .undef, .undef, .undef, .undef, .undef, .undef, .undef, .undef, .undef, .undef, .undef, .undef, .undef, .undef, .undef, .undef, .undef, .undef, .undef], []⟩ = f72_N k c72 (fun y0 y1 y2 y3 => retF (y0, y1, y2, y3)) p1 s2 p3 :=
  (f72_e_mem k c72 retF p1 s2 p3).trans (by rw [show (fun _ => f72_w1A k c72 retF p1 s2 p3) = (fun _ => f72_w1N k c72 (fun y0 y1 y2 y3 => retF (y0, y1, y2, y3)) p1 s2 p3) from funext fun _ => f72_w1_eq k c72 retF p1 s2 p3]; rfl)

noncomputable def G72 : Nat → PV → (List Int) → PV → (PV → (List Int) → PV → Bool → R) → R
  | 0, _, _, _, _ => none
  | k + 1, p1, s2, p3, ret0 => f72_N k (G72 k) ret0 p1 s2 p3
theorem S72 : ∀ k, Snd Try.prog 72 f72_I f72_O (fun x ret => G72 k x.1 x.2.1 x.2.2 (fun y0 y1 y2 y3 => ret (y0, y1, y2, y3)))
  | 0 => snd_none
  | k + 1 => snd_step (E := f72_E k (G72 k)) rfl laidOut noNums (orc_ok (S72 k).o f72_D_ok orc0_ok) (f := 72) (fn := Try.f72) (code := f72_code) Try.func72 (by kernel_rfl) (drawsOk_of laidOut (orc_ok (S72 k).o f72_D_ok orc0_ok) mixed (by kernel_rfl)) f72_un f72_un_ok [] (fun _ => rfl)
      (fun x ret => f72_eq k (G72 k) ret x.1 x.2.1 x.2.2)

/- catchpole/catchpoleref8.Get -/
noncomputable def f44_I : PV × (List Int) × PV → List SV × Obs := fun x => ([.val 53 x.1, .str x.2.1, .val 43 x.2.2], [])
noncomputable def f44_D : List SV → Obs → Option (PV × (List Int) × PV)
  | [.val 53 p1, .str s2, .val 43 p3], [] => some (p1, s2, p3)
  | _, _ => none
theorem f44_D_ok (args : List SV) (B : Obs) (x : PV × (List Int) × PV) (h : f44_D args B = some x) : f44_I x = (args, B) := by
  unfold f44_D at h
  split at h
  · injection h with h; subst h; rfl
  · cases h
noncomputable def f44_O : PV × Int → Out := (fun y => ([.val 57 y.1, .int .i64 y.2], []))
noncomputable def f44_un : Out → Option (PV × Int)
  | ([.val 57 y0, .int .i64 y1], []) => some (y0, y1)
  | _ => none
theorem f44_un_ok (o : Out) (y : PV × Int) (h : f44_un o = some y) : o = f44_O y := by
  unfold f44_un at h
  split at h
  · injection h with h; subst h; rfl
  · cases h
noncomputable def f44_msk : Nat → Option (List Nat) := fun key =>  none
noncomputable def f44_C (c67 : PV → (Bool → R) → R) (c72 : PV → (List Int) → PV → (PV → (List Int) → PV → Bool → R) → R) : Oracle := orc 67 f67_D f67_O (fun x ret => c67 x (fun y0 => ret y0)) <| orc 72 f72_D f72_O (fun x ret => c72 x.1 x.2.1 x.2.2 (fun y0 y1 y2 y3 => ret (y0, y1, y2, y3))) <| orc0
noncomputable def f44_E (k : Nat) (c67 : PV → (Bool → R) → R) (c72 : PV → (List Int) → PV → (PV → (List Int) → PV → Bool → R) → R) : Env := { P := Try.prog, nilOwn := fun d => false, fldOwn := fun d i => false, ownPar := ownPars, ownRet := false, mask := f44_msk, fuel := k, C := f44_C c67 c72 }
noncomputable def f44_code : Code := Try.f44.body.getD .skip
noncomputable def f44_e (c67 : PV → (Bool → R) → R) (c72 : PV → (List Int) → PV → (PV → (List Int) → PV → Bool → R) → R) (ret0 : PV → Int → R) (p1 : PV) (s2 : List Int) (p3 : PV) : R :=
  c67 p1 fun b4 =>
  bif ((!b4) == false) then
    bif (decide ((256 : Int) < (List.length (PV.els p3) : Int))) then
      ret0 (PV.agg [(PV.int 0), (PV.int 0), (PV.list [])]) 1
    else c72 p1 s2 p3 fun p5 s6 p7 b8 =>
    bif ((!b8) == false) then
      bif ((decide ((0 : Int) < (List.length s6 : Int))) == false) then
        bif (decide ((0 : Int) < (List.length (PV.els p7) : Int))) then
          ret0 (PV.agg [(PV.int 0), (PV.int 0), (PV.list [])]) 7
        else ret0 p5 0
      else ret0 (PV.agg [(PV.int 0), (PV.int 0), (PV.list [])]) 7
    else ret0 (PV.agg [(PV.int 0), (PV.int 0), (PV.list [])]) 7
  else ret0 (PV.agg [(PV.int 0), (PV.int 0), (PV.list [])]) 1

theorem f44_e_mem (k : Nat) (c67 : PV → (Bool → R) → R) (c72 : PV → (List Int) → PV → (PV → (List Int) → PV → Bool → R) → R) (retF : PV × Int → R) (p1 : PV) (s2 : List Int) (p3 : PV) : exec (f44_E k c67 c72) f44_code (endK (f44_E k c67 c72) Try.f44 [] f44_un retF) ⟨[.val 53 p1, .str s2, .val 43 p3, .undef, .undef, .undef, .undef, .undef, .undef, .undef, .undef, .undef, .undef, .undef, .undef, .undef, .undef, .undef, .undef, .undef, .undef, .undef, .undef, .undef, .undef, .undef, .undef, .undef, .undef, .undef, .undef, .undef, .undef, .undef, .undef, .undef, .undef, .undef, .undef, .undef, .undef, .undef, .undef, .undef], []⟩ = f44_e c67 c72 (fun y0 y1 => retF (y0, y1)) p1 s2 p3 := by kernel_rfl

noncomputable def f44_N (k : Nat) (c67 : PV → (Bool → R) → R) (c72 : PV → (List Int) → PV → (PV → (List Int) → PV → Bool → R) → R) (ret0 : PV → Int → R) (p1 : PV) (s2 : List Int) (p3 : PV) : R :=
  f44_e c67 c72 ret0 p1 s2 p3
theorem f44_eq (k : Nat) (c67 : PV → (Bool → R) → R) (c72 : PV → (List Int) → PV → (PV → (List Int) → PV → Bool → R) → R) (retF : PV × Int → R) (p1 : PV) (s2 : List Int) (p3 : PV) : exec (f44_E k c67 c72) f44_code (endK (f44_E k c67 c72) Try.f44 [] f44_un retF) ⟨[.val 53 p1, .str s2, .val 43 p3, .undef, .undef, .undef, .undef, .undef, .undef, .undef, .undef, .undef, .undef, .undef, .undef, .undef, .undef, .undef, .undef, .undef, .undef, .undef, .undef, .undef, .undef, .undef, .undef, .undef, .undef, .undef, .undef, .undef, .undef, .undef, .undef, .undef, .undef, .undef, .undef, .undef, .undef, .undef, .undef, .undef], []⟩ = f44_N k c67 c72 (fun y0 y1 => retF (y0, y1)) p1 s2 p3 :=
  (f44_e_mem k c67 c72 retF p1 s2 p3)

noncomputable def G44 : Nat → PV → (List Int) → PV → (PV → Int → R) → R
  | 0, _, _, _, _ => none
  | k + 1, p1, s2, p3, ret0 => f44_N k (G67 k) (G72 k) ret0 p1 s2 p3
theorem S44 : ∀ k, Snd Try.prog 44 f44_I f44_O (fun x ret => G44 k x.1 x.2.1 x.2.2 (fun y0 y1 => ret (y0, y1)))
  | 0 => snd_none
  | k + 1 => snd_step (E := f44_E k (G67 k) (G72 k)) rfl laidOut noNums (orc_ok (S67 k).o f67_D_ok (orc_ok (S72 k).o f72_D_ok orc0_ok)) (f := 44) (fn := Try.f44) (code := f44_code) Try.func44 (by kernel_rfl) (drawsOk_of laidOut (orc_ok (S67 k).o f67_D_ok (orc_ok (S72 k).o f72_D_ok orc0_ok)) mixed (by kernel_rfl)) f44_un f44_un_ok [] (fun _ => rfl)
      (fun x ret => f44_eq k (G67 k) (G72 k) ret x.1 x.2.1 x.2.2)

/- catchpole/catchpolelaw11.valueOf -/
noncomputable def f48_I : PV → List SV × Obs := fun x => ([.val 30 x], [])
noncomputable def f48_D : List SV → Obs → Option (PV)
  | [.val 30 p1], [] => some p1
  | _, _ => none
theorem f48_D_ok (args : List SV) (B : Obs) (x : PV) (h : f48_D args B = some x) : f48_I x = (args, B) := by
  unfold f48_D at h
  split at h
  · injection h with h; subst h; rfl
  · cases h
noncomputable def f48_O : PV → Out := (fun y => ([.val 57 y], []))
noncomputable def f48_un : Out → Option (PV)
  | ([.val 57 y0], []) => some y0
  | _ => none
theorem f48_un_ok (o : Out) (y : PV) (h : f48_un o = some y) : o = f48_O y := by
  unfold f48_un at h
  split at h
  · injection h with h; subst h; rfl
  · cases h
noncomputable def f48_msk : Nat → Option (List Nat) := fun key => bif key == 9 then some [1, 2, 3, 4] else none
noncomputable def f48_C (c48 : PV → (PV → R) → R) : Oracle := orc 48 f48_D f48_O (fun x ret => c48 x (fun y0 => ret y0)) <| orc0
noncomputable def f48_E (k : Nat) (c48 : PV → (PV → R) → R) : Env := { P := Try.prog, nilOwn := fun d => false, fldOwn := fun d i => (d == 9 && i == 2), ownPar := ownPars, ownRet := false, mask := f48_msk, fuel := k, C := f48_C c48 }
noncomputable def f48_code : Code := Try.f48.body.getD .skip
noncomputable def f48_cw1 : Code := subC f48_code [1, 1, 0, 1, 0, 0]
noncomputable def f48_hw1_0 (p1 : PV) : St := ⟨[.dead, .ptr 1 [], .ptr 2 [], .ptr 3 [], .int .i64 0, .dead, .dead, .dead, .dead, .dead, .dead, .dead, .dead, .dead, .dead, .dead, .dead, .dead, .dead, .dead, .dead, .dead, .dead, .dead, .dead, .dead, .dead, .dead, .dead], [(1, .box 30 (.val 30 p1)), (2, .box 57 (.val 57 (PV.agg [(PV.int 0), (PV.int 0), (PV.list [])]))), (3, .box 57 (.agg 57 [.int .i64 (PV.num (PV.fld p1 0)), .int .u8 (PV.num (PV.fld p1 1)), .nils]))]⟩
noncomputable def f48_hw1_1 (p1 : PV) (n7 : Int) (l8 : List PV) : St := ⟨[.dead, .ptr 1 [], .ptr 2 [], .ptr 3 [], .int .i64 n7, .dead, .dead, .dead, .dead, .dead, .dead, .dead, .dead, .dead, .dead, .dead, .dead, .dead, .dead, .dead, .dead, .dead, .dead, .dead, .dead, .dead, .dead, .dead, .dead], [(1, .box 30 (.val 30 p1)), (2, .box 57 (.val 57 (PV.agg [(PV.int 0), (PV.int 0), (PV.list [])]))), (3, .box 57 (.agg 57 [.int .i64 (PV.num (PV.fld p1 0)), .int .u8 (PV.num (PV.fld p1 1)), .own 55 26])), (26, .row 57 l8)]⟩
noncomputable def f48_w1A (k : Nat) (c48 : PV → (PV → R) → R) (retF : PV → R) (p1 : PV) : R := loopM (f48_E k c48) f48_cw1 (kont (f48_E k c48) f48_code [1, 1, 0, 1, 0] (endK (f48_E k c48) Try.f48 [] f48_un retF)) k (f48_hw1_0 p1)
noncomputable def f48_w1b0 (c48 : PV → (PV → R) → R) (ret0 : PV → R) (next_w1_0 : Unit → R) (next_w1_1 : Int → (List PV) → R) (p1 : PV) : R :=
  bif (decide ((0 : Int) < (List.length (PV.els (PV.fld p1 2)) : Int))) then
    bif (true && decide ((0 : Int) ≤ (0 : Int)) && decide ((0 : Int) < (List.length (PV.els (PV.fld p1 2)) : Int))) then
      c48 (List.getD (PV.els (PV.fld p1 2)) ((0 : Int)).toNat PV.nil) fun p6 =>
      next_w1_1 1 [p6]
    else none
  else ret0 (PV.agg [(PV.int (PV.num (PV.fld p1 0))), (PV.int (PV.num (PV.fld p1 1))), (PV.list [])])

theorem f48_w1b0_mem (k : Nat) (c48 : PV → (PV → R) → R) (retF : PV → R) (NX_w1 : St → R) (p1 : PV) : exec (f48_E k c48) f48_cw1 (purgeK (f48_E k c48) f48_cw1 (loopK NX_w1 (kont (f48_E k c48) f48_code [1, 1, 0, 1, 0] (endK (f48_E k c48) Try.f48 [] f48_un retF)))) (f48_hw1_0 p1) = f48_w1b0 c48 (fun y0 => retF y0) (fun _ => NX_w1 (f48_hw1_0 p1)) (fun n7 l8 => NX_w1 (f48_hw1_1 p1 n7 l8)) p1 := by kernel_rfl

noncomputable def f48_w1b0N (k : Nat) (c48 : PV → (PV → R) → R) (ret0 : PV → R) (next_w1_0 : Unit → R) (next_w1_1 : Int → (List PV) → R) (p1 : PV) : R :=
  f48_w1b0 c48 ret0 next_w1_0 next_w1_1 p1
theorem f48_w1b0_eq (k : Nat) (c48 : PV → (PV → R) → R) (retF : PV → R) (NX_w1 : St → R) (p1 : PV) : exec (f48_E k c48) f48_cw1 (purgeK (f48_E k c48) f48_cw1 (loopK NX_w1 (kont (f48_E k c48) f48_code [1, 1, 0, 1, 0] (endK (f48_E k c48) Try.f48 [] f48_un retF)))) (f48_hw1_0 p1) = f48_w1b0N k c48 (fun y0 => retF y0) (fun _ => NX_w1 (f48_hw1_0 p1)) (fun n7 l8 => NX_w1 (f48_hw1_1 p1 n7 l8)) p1 :=
  (f48_w1b0_mem k c48 retF NX_w1 p1)

noncomputable def f48_w1b1 (c48 : PV → (PV → R) → R) (ret0 : PV → R) (next_w1_0 : Unit → R) (next_w1_1 : Int → (List PV) → R) (p1 : PV) (n7 : Int) (l8 : List PV) : R :=
  bif (decide (n7 < (List.length (PV.els (PV.fld p1 2)) : Int))) then
    bif (true && decide ((0 : Int) ≤ n7) && decide (n7 < (List.length (PV.els (PV.fld p1 2)) : Int))) then
      c48 (List.getD (PV.els (PV.fld p1 2)) (n7).toNat PV.nil) fun p9 =>
      bif (true && roomy (List.length l8 + List.length [p9]) 40) then
        next_w1_1 (IntKind.wrap .i64 (n7 + (1 : Int))) (l8 ++ [p9])
      else none
    else none
  else ret0 (PV.agg [(PV.int (PV.num (PV.fld p1 0))), (PV.int (PV.num (PV.fld p1 1))), (PV.list l8)])

theorem f48_w1b1_mem (k : Nat) (c48 : PV → (PV → R) → R) (retF : PV → R) (NX_w1 : St → R) (p1 : PV) (n7 : Int) (l8 : List PV) : exec (f48_E k c48) f48_cw1 (purgeK (f48_E k c48) f48_cw1 (loopK NX_w1 (kont (f48_E k c48) f48_code [1, 1, 0, 1, 0] (endK (f48_E k c48) Try.f48 [] f48_un retF)))) (f48_hw1_1 p1 n7 l8) = f48_w1b1 c48 (fun y0 => retF y0) (fun _ => NX_w1 (f48_hw1_0 p1)) (fun n7 l8 => NX_w1 (f48_hw1_1 p1 n7 l8)) p1 n7 l8 := by kernel_rfl

noncomputable def f48_w1b1N (k : Nat) (c48 : PV → (PV → R) → R) (ret0 : PV → R) (next_w1_0 : Unit → R) (next_w1_1 : Int → (List PV) → R) (p1 : PV) (n7 : Int) (l8 : List PV) : R :=
  f48_w1b1 c48 ret0 next_w1_0 next_w1_1 p1 n7 l8
theorem f48_w1b1_eq (k : Nat) (c48 : PV → (PV → R) → R) (retF : PV → R) (NX_w1 : St → R) (p1 : PV) (n7 : Int) (l8 : List PV) : exec (f48_E k c48) f48_cw1 (purgeK (f48_E k c48) f48_cw1 (loopK NX_w1 (kont (f48_E k c48) f48_code [1, 1, 0, 1, 0] (endK (f48_E k c48) Try.f48 [] f48_un retF)))) (f48_hw1_1 p1 n7 l8) = f48_w1b1N k c48 (fun y0 => retF y0) (fun _ => NX_w1 (f48_hw1_0 p1)) (fun n7 l8 => NX_w1 (f48_hw1_1 p1 n7 l8)) p1 n7 l8 :=
  (f48_w1b1_mem k c48 retF NX_w1 p1 n7 l8)

noncomputable def f48_w1B (k : Nat) (c48 : PV → (PV → R) → R) (ret0 : PV → R) (p1 : PV) (nx : Sum (Unit) (Int × (List PV)) → R) : Sum (Unit) (Int × (List PV)) → R := (Sum.elim (fun s => f48_w1b0N k c48 ret0 (fun _ => nx (.inl ())) (fun n7 l8 => nx (.inr (n7, l8))) p1) (fun s => f48_w1b1N k c48 ret0 (fun _ => nx (.inl ())) (fun n7 l8 => nx (.inr (n7, l8))) p1 s.1 s.2))
noncomputable def f48_w1N (k : Nat) (c48 : PV → (PV → R) → R) (ret0 : PV → R) (p1 : PV) : R := loopR (f48_w1B k c48 ret0 p1) k (.inl ())
theorem f48_w1_eq (k : Nat) (c48 : PV → (PV → R) → R) (retF : PV → R) (p1 : PV) : f48_w1A k c48 retF p1 = f48_w1N k c48 (fun y0 => retF y0) p1 :=
  Eq.mp (by kernel_rfl) (loop_sim (E := (f48_E k c48)) (c := f48_cw1) (K := (kont (f48_E k c48) f48_code [1, 1, 0, 1, 0] (endK (f48_E k c48) Try.f48 [] f48_un retF))) (S := Sum (Unit) (Int × (List PV))) (Sum.elim (fun s => f48_hw1_0 p1) (fun s => f48_hw1_1 p1 s.1 s.2)) (f48_w1B k c48 (fun y0 => retF y0) p1) (fun NX s => by
    cases s with
    | inl s => exact Eq.mp (by kernel_rfl) (f48_w1b0_eq k c48 retF NX p1)
    | inr s =>
      exact Eq.mp (by kernel_rfl) (f48_w1b1_eq k c48 retF NX p1 s.1 s.2)) k (.inl ()))

noncomputable def f48_e (c48 : PV → (PV → R) → R) (ret0 : PV → R) (w1 : Unit → R) (p1 : PV) : R :=
  w1 ()

theorem f48_e_mem (k : Nat) (c48 : PV → (PV → R) → R) (retF : PV → R) (p1 : PV) : exec (f48_E k c48) f48_code (endK (f48_E k c48) Try.f48 [] f48_un retF) ⟨[.val 30 p1, .undef, .undef, .undef, .undef, .undef, .undef, .undef, .undef, .undef, .undef, .undef, .undef, .undef, .undef, .undef, .undef, .undef, .undef, .undef, .undef, .undef, .undef, .undef, .undef, .undef, .undef, .undef, .undef], []⟩ = f48_e c48 (fun y0 => retF y0) (fun _ => f48_w1A k c48 retF p1) p1 := by kernel_rfl

noncomputable def f48_N (k : Nat) (c48 : PV → (PV → R) → R) (ret0 : PV → R) (p1 : PV) : R :=
  f48_e c48 ret0 (fun _ => f48_w1N k c48 ret0 p1) p1
theorem f48_eq (k : Nat) (c48 : PV → (PV → R) → R) (retF : PV → R) (p1 : PV) : exec (f48_E k c48) f48_code (endK (f48_E k c48) Try.f48 [] f48_un retF) ⟨[.val 30 p1, .undef, .undef, .undef, .undef, .undef, .undef, .undef, .undef, .undef, .undef, .undef, .undef, .undef, .undef, .undef, .undef, .undef, .undef, .undef, .undef, .undef, .undef, .undef, .undef, .undef, .undef, .undef, .undef], []⟩ = f48_N k c48 (fun y0 => retF y0) p1 :=
  (f48_e_mem k c48 retF p1).trans (by rw [show (fun _ => f48_w1A k c48 retF p1) = (fun _ => f48_w1N k c48 (fun y0 => retF y0) p1) from funext fun _ => f48_w1_eq k c48 retF p1]; rfl)

noncomputable def G48 : Nat → PV → (PV → R) → R
  | 0, _, _ => none
  | k + 1, p1, ret0 => f48_N k (G48 k) ret0 p1
theorem S48 : ∀ k, Snd Try.prog 48 f48_I f48_O (fun x ret => G48 k x (fun y0 => ret y0))
  | 0 => snd_none
  | k + 1 => snd_step (E := f48_E k (G48 k)) rfl laidOut noNums (orc_ok (S48 k).o f48_D_ok orc0_ok) (f := 48) (fn := Try.f48) (code := f48_code) Try.func48 (by kernel_rfl) (drawsOk_of laidOut (orc_ok (S48 k).o f48_D_ok orc0_ok) mixed (by kernel_rfl)) f48_un f48_un_ok [] (fun _ => rfl)
      (fun x ret => f48_eq k (G48 k) ret x)

/- catchpole/catchpoleref8.counts -/
noncomputable def f69_I : PV → List SV × Obs := fun x => ([.val 57 x], [])
noncomputable def f69_D : List SV → Obs → Option (PV)
  | [.val 57 p1], [] => some p1
  | _, _ => none
theorem f69_D_ok (args : List SV) (B : Obs) (x : PV) (h : f69_D args B = some x) : f69_I x = (args, B) := by
  unfold f69_D at h
  split at h
  · injection h with h; subst h; rfl
  · cases h
noncomputable def f69_O : PV → Out := (fun y => ([.val 55 y], []))
noncomputable def f69_un : Out → Option (PV)
  | ([.val 55 y0], []) => some y0
  | _ => none
theorem f69_un_ok (o : Out) (y : PV) (h : f69_un o = some y) : o = f69_O y := by
  unfold f69_un at h
  split at h
  · injection h with h; subst h; rfl
  · cases h
noncomputable def f69_msk : Nat → Option (List Nat) := fun key =>  none
noncomputable def f69_C : Oracle := orc0
noncomputable def f69_E (k : Nat) : Env := { P := Try.prog, nilOwn := fun d => false, fldOwn := fun d i => false, ownPar := ownPars, ownRet := false, mask := f69_msk, fuel := k, C := f69_C }
noncomputable def f69_code : Code := Try.f69.body.getD .skip
noncomputable def f69_e (ret0 : PV → R) (p1 : PV) : R :=
  bif (decide ((PV.num (PV.fld p1 0)) = (3 : Int))) then
    bif (decide ((List.length (PV.els (PV.fld p1 2)) : Int) < (2 : Int))) then
      bif (decide ((0 : Int) ≤ (0 : Int)) && decide ((0 : Int) ≤ (List.length (PV.els (PV.fld p1 2)) : Int)) && decide ((List.length (PV.els (PV.fld p1 2)) : Int) ≤ (List.length (PV.els (PV.fld p1 2)) : Int))) then
        ret0 (PV.list (List.drop ((0 : Int)).toNat (List.take ((List.length (PV.els (PV.fld p1 2)) : Int)).toNat (PV.els (PV.fld p1 2)))))
      else none
    else bif (decide ((0 : Int) ≤ (0 : Int)) && decide ((0 : Int) ≤ (2 : Int)) && decide ((2 : Int) ≤ (List.length (PV.els (PV.fld p1 2)) : Int))) then
      ret0 (PV.list (List.drop ((0 : Int)).toNat (List.take ((2 : Int)).toNat (PV.els (PV.fld p1 2)))))
    else none
  else bif (decide ((PV.num (PV.fld p1 0)) = (4 : Int))) then
    bif (decide ((List.length (PV.els (PV.fld p1 2)) : Int) < (1 : Int))) then
      bif (decide ((0 : Int) ≤ (0 : Int)) && decide ((0 : Int) ≤ (List.length (PV.els (PV.fld p1 2)) : Int)) && decide ((List.length (PV.els (PV.fld p1 2)) : Int) ≤ (List.length (PV.els (PV.fld p1 2)) : Int))) then
        ret0 (PV.list (List.drop ((0 : Int)).toNat (List.take ((List.length (PV.els (PV.fld p1 2)) : Int)).toNat (PV.els (PV.fld p1 2)))))
      else none
    else bif (decide ((0 : Int) ≤ (0 : Int)) && decide ((0 : Int) ≤ (1 : Int)) && decide ((1 : Int) ≤ (List.length (PV.els (PV.fld p1 2)) : Int))) then
      ret0 (PV.list (List.drop ((0 : Int)).toNat (List.take ((1 : Int)).toNat (PV.els (PV.fld p1 2)))))
    else none
  else bif (decide ((PV.num (PV.fld p1 0)) = (5 : Int))) then
    bif (decide ((List.length (PV.els (PV.fld p1 2)) : Int) < (1 : Int))) then
      bif (decide ((0 : Int) ≤ (0 : Int)) && decide ((0 : Int) ≤ (List.length (PV.els (PV.fld p1 2)) : Int)) && decide ((List.length (PV.els (PV.fld p1 2)) : Int) ≤ (List.length (PV.els (PV.fld p1 2)) : Int))) then
        ret0 (PV.list (List.drop ((0 : Int)).toNat (List.take ((List.length (PV.els (PV.fld p1 2)) : Int)).toNat (PV.els (PV.fld p1 2)))))
      else none
    else bif (decide ((0 : Int) ≤ (0 : Int)) && decide ((0 : Int) ≤ (1 : Int)) && decide ((1 : Int) ≤ (List.length (PV.els (PV.fld p1 2)) : Int))) then
      ret0 (PV.list (List.drop ((0 : Int)).toNat (List.take ((1 : Int)).toNat (PV.els (PV.fld p1 2)))))
    else none
  else bif (decide ((PV.num (PV.fld p1 0)) = (7 : Int))) then
    bif (decide ((List.length (PV.els (PV.fld p1 2)) : Int) < (1 : Int))) then
      bif (decide ((0 : Int) ≤ (0 : Int)) && decide ((0 : Int) ≤ (List.length (PV.els (PV.fld p1 2)) : Int)) && decide ((List.length (PV.els (PV.fld p1 2)) : Int) ≤ (List.length (PV.els (PV.fld p1 2)) : Int))) then
        ret0 (PV.list (List.drop ((0 : Int)).toNat (List.take ((List.length (PV.els (PV.fld p1 2)) : Int)).toNat (PV.els (PV.fld p1 2)))))
      else none
    else bif (decide ((0 : Int) ≤ (0 : Int)) && decide ((0 : Int) ≤ (1 : Int)) && decide ((1 : Int) ≤ (List.length (PV.els (PV.fld p1 2)) : Int))) then
      ret0 (PV.list (List.drop ((0 : Int)).toNat (List.take ((1 : Int)).toNat (PV.els (PV.fld p1 2)))))
    else none
  else bif (decide ((PV.num (PV.fld p1 0)) = (6 : Int))) then
    bif (decide ((List.length (PV.els (PV.fld p1 2)) : Int) < (List.length (PV.els (PV.fld p1 2)) : Int))) then
      bif (decide ((0 : Int) ≤ (0 : Int)) && decide ((0 : Int) ≤ (List.length (PV.els (PV.fld p1 2)) : Int)) && decide ((List.length (PV.els (PV.fld p1 2)) : Int) ≤ (List.length (PV.els (PV.fld p1 2)) : Int))) then
        ret0 (PV.list (List.drop ((0 : Int)).toNat (List.take ((List.length (PV.els (PV.fld p1 2)) : Int)).toNat (PV.els (PV.fld p1 2)))))
      else none
    else bif (decide ((0 : Int) ≤ (0 : Int)) && decide ((0 : Int) ≤ (List.length (PV.els (PV.fld p1 2)) : Int)) && decide ((List.length (PV.els (PV.fld p1 2)) : Int) ≤ (List.length (PV.els (PV.fld p1 2)) : Int))) then
      ret0 (PV.list (List.drop ((0 : Int)).toNat (List.take ((List.length (PV.els (PV.fld p1 2)) : Int)).toNat (PV.els (PV.fld p1 2)))))
    else none
  else bif (decide ((List.length (PV.els (PV.fld p1 2)) : Int) < (0 : Int))) then
    bif (decide ((0 : Int) ≤ (0 : Int)) && decide ((0 : Int) ≤ (List.length (PV.els (PV.fld p1 2)) : Int)) && decide ((List.length (PV.els (PV.fld p1 2)) : Int) ≤ (List.length (PV.els (PV.fld p1 2)) : Int))) then
      ret0 (PV.list (List.drop ((0 : Int)).toNat (List.take ((List.length (PV.els (PV.fld p1 2)) : Int)).toNat (PV.els (PV.fld p1 2)))))
    else none
  else bif (decide ((0 : Int) ≤ (0 : Int)) && decide ((0 : Int) ≤ (0 : Int)) && decide ((0 : Int) ≤ (List.length (PV.els (PV.fld p1 2)) : Int))) then
    ret0 (PV.list (List.drop ((0 : Int)).toNat (List.take ((0 : Int)).toNat (PV.els (PV.fld p1 2)))))
  else none

theorem f69_e_mem (k : Nat) (retF : PV → R) (p1 : PV) : exec (f69_E k) f69_code (endK (f69_E k) Try.f69 [] f69_un retF) ⟨[.val 57 p1, .undef, .undef, .undef, .undef, .undef, .undef, .undef, .undef, .undef, .undef, .undef, .undef, .undef, .undef, .undef, .undef, .undef, .undef, .undef, .undef, .undef, .undef, .undef, .undef, .undef, .undef, .undef, .undef], []⟩ = f69_e (fun y0 => retF y0) p1 := by kernel_rfl

noncomputable def f69_N (k : Nat) (ret0 : PV → R) (p1 : PV) : R :=
  f69_e ret0 p1
theorem f69_eq (k : Nat) (retF : PV → R) (p1 : PV) : exec (f69_E k) f69_code (endK (f69_E k) Try.f69 [] f69_un retF) ⟨[.val 57 p1, .undef, .undef, .undef, .undef, .undef, .undef, .undef, .undef, .undef, .undef, .undef, .undef, .undef, .undef, .undef, .undef, .undef, .undef, .undef, .undef, .undef, .undef, .undef, .undef, .undef, .undef, .undef, .undef], []⟩ = f69_N k (fun y0 => retF y0) p1 :=
  (f69_e_mem k retF p1)

noncomputable def G69 : Nat → PV → (PV → R) → R
  | 0, _, _ => none
  | k + 1, p1, ret0 => f69_N k  ret0 p1
theorem S69 : ∀ k, Snd Try.prog 69 f69_I f69_O (fun x ret => G69 k x (fun y0 => ret y0))
  | 0 => snd_none
  | k + 1 => snd_step (E := f69_E k ) rfl laidOut noNums orc0_ok (f := 69) (fn := Try.f69) (code := f69_code) Try.func69 (by kernel_rfl) (drawsOk_of laidOut orc0_ok mixed (by kernel_rfl)) f69_un f69_un_ok [] (fun _ => rfl)
      (fun x ret => f69_eq k  ret x)

/- catchpole/catchpoleref8.Bits -/
noncomputable def f47_I : PV → List SV × Obs := fun x => ([.val 57 x], [])
noncomputable def f47_D : List SV → Obs → Option (PV)
  | [.val 57 p1], [] => some p1
  | _, _ => none
theorem f47_D_ok (args : List SV) (B : Obs) (x : PV) (h : f47_D args B = some x) : f47_I x = (args, B) := by
  unfold f47_D at h
  split at h
  · injection h with h; subst h; rfl
  · cases h
noncomputable def f47_O : (List Int) → Out := (fun y => ([.str y], []))
noncomputable def f47_un : Out → Option ((List Int))
  | ([.str y0], []) => some y0
  | _ => none
theorem f47_un_ok (o : Out) (y : (List Int)) (h : f47_un o = some y) : o = f47_O y := by
  unfold f47_un at h
  split at h
  · injection h with h; subst h; rfl
  · cases h
noncomputable def f47_msk : Nat → Option (List Nat) := fun key => bif key == 27 then some [1, 3, 4, 5] else none
noncomputable def f47_C (c47 : PV → ((List Int) → R) → R) (c69 : PV → (PV → R) → R) : Oracle := orc 47 f47_D f47_O (fun x ret => c47 x (fun y0 => ret y0)) <| orc 69 f69_D f69_O (fun x ret => c69 x (fun y0 => ret y0)) <| orc0
noncomputable def f47_E (k : Nat) (c47 : PV → ((List Int) → R) → R) (c69 : PV → (PV → R) → R) : Env := { P := Try.prog, nilOwn := fun d => false, fldOwn := fun d i => false, ownPar := ownPars, ownRet := false, mask := f47_msk, fuel := k, C := f47_C c47 c69 }
noncomputable def f47_code : Code := Try.f47.body.getD .skip
noncomputable def f47_cw1 : Code := subC f47_code [1, 1, 1, 1, 0, 1, 0, 0]
noncomputable def f47_hw1_0 (p1 : PV) (p2 : PV) (s5 : List Int) (n6 : Int) : St := ⟨[.dead, .ptr 1 [], .dead, .str s5, .val 55 p2, .int .i64 n6, .dead, .dead, .dead, .dead, .dead, .dead, .dead, .dead, .dead, .dead, .dead, .dead, .dead, .dead, .dead, .dead, .dead, .dead, .dead, .dead, .dead, .dead, .dead, .dead, .dead, .dead, .dead, .dead, .dead, .dead, .dead, .dead], [(1, .box 57 (.val 57 p1))]⟩
noncomputable def f47_w1A (k : Nat) (c47 : PV → ((List Int) → R) → R) (c69 : PV → (PV → R) → R) (retF : (List Int) → R) (p1 : PV) (p2 : PV) (s5 : List Int) (n6 : Int) : R := loopM (f47_E k c47 c69) f47_cw1 (kont (f47_E k c47 c69) f47_code [1, 1, 1, 1, 0, 1, 0] (endK (f47_E k c47 c69) Try.f47 [] f47_un retF)) k (f47_hw1_0 p1 p2 s5 n6)
noncomputable def f47_w1b0 (c47 : PV → ((List Int) → R) → R) (c69 : PV → (PV → R) → R) (ret0 : (List Int) → R) (next_w1_0 : (List Int) → Int → R) (p1 : PV) (p2 : PV) (s5 : List Int) (n6 : Int) : R :=
  bif (decide (n6 < (List.length (PV.els p2) : Int))) then
    bif (decide ((PV.num (PV.fld p1 0)) = (6 : Int))) then
      bif (decide (List.length s5 + List.length [48] ≤ 4611686018427387904)) then
        bif (true && decide ((0 : Int) ≤ n6) && decide (n6 < (List.length (PV.els p2) : Int))) then
          c47 (List.getD (PV.els p2) (n6).toNat PV.nil) fun s7 =>
          bif (decide (List.length (s5 ++ [48]) + List.length s7 ≤ 4611686018427387904)) then
            next_w1_0 ((s5 ++ [48]) ++ s7) (IntKind.wrap .i64 (n6 + (1 : Int)))
          else none
        else none
      else none
    else bif (true && decide ((0 : Int) ≤ n6) && decide (n6 < (List.length (PV.els p2) : Int))) then
      c47 (List.getD (PV.els p2) (n6).toNat PV.nil) fun s8 =>
      bif (decide (List.length s5 + List.length s8 ≤ 4611686018427387904)) then
        next_w1_0 (s5 ++ s8) (IntKind.wrap .i64 (n6 + (1 : Int)))
      else none
    else none
  else bif (decide ((PV.num (PV.fld p1 0)) = (6 : Int))) then
    bif (decide (List.length s5 + List.length [49] ≤ 4611686018427387904)) then
      ret0 (s5 ++ [49])
    else none
  else ret0 s5

theorem f47_w1b0_mem (k : Nat) (c47 : PV → ((List Int) → R) → R) (c69 : PV → (PV → R) → R) (retF : (List Int) → R) (NX_w1 : St → R) (p1 : PV) (p2 : PV) (s5 : List Int) (n6 : Int) : exec (f47_E k c47 c69) f47_cw1 (purgeK (f47_E k c47 c69) f47_cw1 (loopK NX_w1 (kont (f47_E k c47 c69) f47_code [1, 1, 1, 1, 0, 1, 0] (endK (f47_E k c47 c69) Try.f47 [] f47_un retF)))) (f47_hw1_0 p1 p2 s5 n6) = f47_w1b0 c47 c69 (fun y0 => retF y0) (fun s5 n6 => NX_w1 (f47_hw1_0 p1 p2 s5 n6)) p1 p2 s5 n6 := by kernel_rfl

noncomputable def f47_w1b0N (k : Nat) (c47 : PV → ((List Int) → R) → R) (c69 : PV → (PV → R) → R) (ret0 : (List Int) → R) (next_w1_0 : (List Int) → Int → R) (p1 : PV) (p2 : PV) (s5 : List Int) (n6 : Int) : R :=
  f47_w1b0 c47 c69 ret0 next_w1_0 p1 p2 s5 n6
theorem f47_w1b0_eq (k : Nat) (c47 : PV → ((List Int) → R) → R) (c69 : PV → (PV → R) → R) (retF : (List Int) → R) (NX_w1 : St → R) (p1 : PV) (p2 : PV) (s5 : List Int) (n6 : Int) : exec (f47_E k c47 c69) f47_cw1 (purgeK (f47_E k c47 c69) f47_cw1 (loopK NX_w1 (kont (f47_E k c47 c69) f47_code [1, 1, 1, 1, 0, 1, 0] (endK (f47_E k c47 c69) Try.f47 [] f47_un retF)))) (f47_hw1_0 p1 p2 s5 n6) = f47_w1b0N k c47 c69 (fun y0 => retF y0) (fun s5 n6 => NX_w1 (f47_hw1_0 p1 p2 s5 n6)) p1 p2 s5 n6 :=
  (f47_w1b0_mem k c47 c69 retF NX_w1 p1 p2 s5 n6)

noncomputable def f47_w1B (k : Nat) (c47 : PV → ((List Int) → R) → R) (c69 : PV → (PV → R) → R) (ret0 : (List Int) → R) (p1 : PV) (p2 : PV) (nx : (List Int) × Int → R) : (List Int) × Int → R := (fun s => f47_w1b0N k c47 c69 ret0 (fun s5 n6 => nx (s5, n6)) p1 p2 s.1 s.2)
noncomputable def f47_w1N (k : Nat) (c47 : PV → ((List Int) → R) → R) (c69 : PV → (PV → R) → R) (ret0 : (List Int) → R) (p1 : PV) (p2 : PV) (s5 : List Int) (n6 : Int) : R := loopR (f47_w1B k c47 c69 ret0 p1 p2) k (s5, n6)
theorem f47_w1_eq (k : Nat) (c47 : PV → ((List Int) → R) → R) (c69 : PV → (PV → R) → R) (retF : (List Int) → R) (p1 : PV) (p2 : PV) (s5 : List Int) (n6 : Int) : f47_w1A k c47 c69 retF p1 p2 s5 n6 = f47_w1N k c47 c69 (fun y0 => retF y0) p1 p2 s5 n6 :=
  Eq.mp (by kernel_rfl) (loop_sim (E := (f47_E k c47 c69)) (c := f47_cw1) (K := (kont (f47_E k c47 c69) f47_code [1, 1, 1, 1, 0, 1, 0] (endK (f47_E k c47 c69) Try.f47 [] f47_un retF))) (S := (List Int) × Int) (fun s => f47_hw1_0 p1 p2 s.1 s.2) (f47_w1B k c47 c69 (fun y0 => retF y0) p1 p2) (fun NX s => by
    exact Eq.mp (by kernel_rfl) (f47_w1b0_eq k c47 c69 retF NX p1 p2 s.1 s.2)) k (s5, n6))

noncomputable def f47_cw2 : Code := subC f47_code [1, 1, 1, 1, 0, 1, 0, 0]
noncomputable def f47_hw2_0 (p1 : PV) (p2 : PV) (s11 : List Int) (n12 : Int) : St := ⟨[.dead, .ptr 1 [], .dead, .str s11, .val 55 p2, .int .i64 n12, .dead, .dead, .dead, .dead, .dead, .dead, .dead, .dead, .dead, .dead, .dead, .dead, .dead, .dead, .dead, .dead, .dead, .dead, .dead, .dead, .dead, .dead, .dead, .dead, .dead, .dead, .dead, .dead, .dead, .dead, .dead, .dead], [(1, .box 57 (.val 57 p1))]⟩
noncomputable def f47_w2A (k : Nat) (c47 : PV → ((List Int) → R) → R) (c69 : PV → (PV → R) → R) (retF : (List Int) → R) (p1 : PV) (p2 : PV) (s11 : List Int) (n12 : Int) : R := loopM (f47_E k c47 c69) f47_cw2 (kont (f47_E k c47 c69) f47_code [1, 1, 1, 1, 0, 1, 0] (endK (f47_E k c47 c69) Try.f47 [] f47_un retF)) k (f47_hw2_0 p1 p2 s11 n12)
noncomputable def f47_w2b0 (c47 : PV → ((List Int) → R) → R) (c69 : PV → (PV → R) → R) (ret0 : (List Int) → R) (next_w2_0 : (List Int) → Int → R) (p1 : PV) (p2 : PV) (s11 : List Int) (n12 : Int) : R :=
  bif (decide (n12 < (List.length (PV.els p2) : Int))) then
    bif (decide ((PV.num (PV.fld p1 0)) = (6 : Int))) then
      bif (decide (List.length s11 + List.length [48] ≤ 4611686018427387904)) then
        bif (true && decide ((0 : Int) ≤ n12) && decide (n12 < (List.length (PV.els p2) : Int))) then
          c47 (List.getD (PV.els p2) (n12).toNat PV.nil) fun s13 =>
          bif (decide (List.length (s11 ++ [48]) + List.length s13 ≤ 4611686018427387904)) then
            next_w2_0 ((s11 ++ [48]) ++ s13) (IntKind.wrap .i64 (n12 + (1 : Int)))
          else none
        else none
      else none
    else bif (true && decide ((0 : Int) ≤ n12) && decide (n12 < (List.length (PV.els p2) : Int))) then
      c47 (List.getD (PV.els p2) (n12).toNat PV.nil) fun s14 =>
      bif (decide (List.length s11 + List.length s14 ≤ 4611686018427387904)) then
        next_w2_0 (s11 ++ s14) (IntKind.wrap .i64 (n12 + (1 : Int)))
      else none
    else none
  else bif (decide ((PV.num (PV.fld p1 0)) = (6 : Int))) then
    bif (decide (List.length s11 + List.length [49] ≤ 4611686018427387904)) then
      ret0 (s11 ++ [49])
    else none
  else ret0 s11

theorem f47_w2b0_mem (k : Nat) (c47 : PV → ((List Int) → R) → R) (c69 : PV → (PV → R) → R) (retF : (List Int) → R) (NX_w2 : St → R) (p1 : PV) (p2 : PV) (s11 : List Int) (n12 : Int) : exec (f47_E k c47 c69) f47_cw2 (purgeK (f47_E k c47 c69) f47_cw2 (loopK NX_w2 (kont (f47_E k c47 c69) f47_code [1, 1, 1, 1, 0, 1, 0] (endK (f47_E k c47 c69) Try.f47 [] f47_un retF)))) (f47_hw2_0 p1 p2 s11 n12) = f47_w2b0 c47 c69 (fun y0 => retF y0) (fun s11 n12 => NX_w2 (f47_hw2_0 p1 p2 s11 n12)) p1 p2 s11 n12 := by kernel_rfl

noncomputable def f47_w2b0N (k : Nat) (c47 : PV → ((List Int) → R) → R) (c69 : PV → (PV → R) → R) (ret0 : (List Int) → R) (next_w2_0 : (List Int) → Int → R) (p1 : PV) (p2 : PV) (s11 : List Int) (n12 : Int) : R :=
  f47_w2b0 c47 c69 ret0 next_w2_0 p1 p2 s11 n12
theorem f47_w2b0_eq (k : Nat) (c47 : PV → ((List Int) → R) → R) (c69 : PV → (PV → R) → R) (retF : (List Int) → R) (NX_w2 : St → R) (p1 : PV) (p2 : PV) (s11 : List Int) (n12 : Int) : exec (f47_E k c47 c69) f47_cw2 (purgeK (f47_E k c47 c69) f47_cw2 (loopK NX_w2 (kont (f47_E k c47 c69) f47_code [1, 1, 1, 1, 0, 1, 0] (endK (f47_E k c47 c69) Try.f47 [] f47_un retF)))) (f47_hw2_0 p1 p2 s11 n12) = f47_w2b0N k c47 c69 (fun y0 => retF y0) (fun s11 n12 => NX_w2 (f47_hw2_0 p1 p2 s11 n12)) p1 p2 s11 n12 :=
  (f47_w2b0_mem k c47 c69 retF NX_w2 p1 p2 s11 n12)

noncomputable def f47_w2B (k : Nat) (c47 : PV → ((List Int) → R) → R) (c69 : PV → (PV → R) → R) (ret0 : (List Int) → R) (p1 : PV) (p2 : PV) (nx : (List Int) × Int → R) : (List Int) × Int → R := (fun s => f47_w2b0N k c47 c69 ret0 (fun s11 n12 => nx (s11, n12)) p1 p2 s.1 s.2)
noncomputable def f47_w2N (k : Nat) (c47 : PV → ((List Int) → R) → R) (c69 : PV → (PV → R) → R) (ret0 : (List Int) → R) (p1 : PV) (p2 : PV) (s11 : List Int) (n12 : Int) : R := loopR (f47_w2B k c47 c69 ret0 p1 p2) k (s11, n12)
theorem f47_w2_eq (k : Nat) (c47 : PV → ((List Int) → R) → R) (c69 : PV → (PV → R) → R) (retF : (List Int) → R) (p1 : PV) (p2 : PV) (s11 : List Int) (n12 : Int) : f47_w2A k c47 c69 retF p1 p2 s11 n12 = f47_w2N k c47 c69 (fun y0 => retF y0) p1 p2 s11 n12 :=
  Eq.mp (by kernel_rfl) (loop_sim (E := (f47_E k c47 c69)) (c := f47_cw2) (K := (kont (f47_E k c47 c69) f47_code [1, 1, 1, 1, 0, 1, 0] (endK (f47_E k c47 c69) Try.f47 [] f47_un retF))) (S := (List Int) × Int) (fun s => f47_hw2_0 p1 p2 s.1 s.2) (f47_w2B k c47 c69 (fun y0 => retF y0) p1 p2) (fun NX s => by
    exact Eq.mp (by kernel_rfl) (f47_w2b0_eq k c47 c69 retF NX p1 p2 s.1 s.2)) k (s11, n12))

noncomputable def f47_cw3 : Code := subC f47_code [1, 1, 1, 1, 0, 1, 0, 0]
noncomputable def f47_hw3_0 (p1 : PV) (p2 : PV) (s17 : List Int) (n18 : Int) : St := ⟨[.dead, .ptr 1 [], .dead, .str s17, .val 55 p2, .int .i64 n18, .dead, .dead, .dead, .dead, .dead, .dead, .dead, .dead, .dead, .dead, .dead, .dead, .dead, .dead, .dead, .dead, .dead, .dead, .dead, .dead, .dead, .dead, .dead, .dead, .dead, .dead, .dead, .dead, .dead, .dead, .dead, .dead], [(1, .box 57 (.val 57 p1))]⟩
noncomputable def f47_w3A (k : Nat) (c47 : PV → ((List Int) → R) → R) (c69 : PV → (PV → R) → R) (retF : (List Int) → R) (p1 : PV) (p2 : PV) (s17 : List Int) (n18 : Int) : R := loopM (f47_E k c47 c69) f47_cw3 (kont (f47_E k c47 c69) f47_code [1, 1, 1, 1, 0, 1, 0] (endK (f47_E k c47 c69) Try.f47 [] f47_un retF)) k (f47_hw3_0 p1 p2 s17 n18)
noncomputable def f47_w3b0 (c47 : PV → ((List Int) → R) → R) (c69 : PV → (PV → R) → R) (ret0 : (List Int) → R) (next_w3_0 : (List Int) → Int → R) (p1 : PV) (p2 : PV) (s17 : List Int) (n18 : Int) : R :=
  bif (decide (n18 < (List.length (PV.els p2) : Int))) then
    bif (decide ((PV.num (PV.fld p1 0)) = (6 : Int))) then
      bif (decide (List.length s17 + List.length [48] ≤ 4611686018427387904)) then
        bif (true && decide ((0 : Int) ≤ n18) && decide (n18 < (List.length (PV.els p2) : Int))) then
          c47 (List.getD (PV.els p2) (n18).toNat PV.nil) fun s19 =>
          bif (decide (List.length (s17 ++ [48]) + List.length s19 ≤ 4611686018427387904)) then
            next_w3_0 ((s17 ++ [48]) ++ s19) (IntKind.wrap .i64 (n18 + (1 : Int)))
          else none
        else none
      else none
    else bif (true && decide ((0 : Int) ≤ n18) && decide (n18 < (List.length (PV.els p2) : Int))) then
      c47 (List.getD (PV.els p2) (n18).toNat PV.nil) fun s20 =>
      bif (decide (List.length s17 + List.length s20 ≤ 4611686018427387904)) then
        next_w3_0 (s17 ++ s20) (IntKind.wrap .i64 (n18 + (1 : Int)))
      else none
    else none
  else bif (decide ((PV.num (PV.fld p1 0)) = (6 : Int))) then
    bif (decide (List.length s17 + List.length [49] ≤ 4611686018427387904)) then
      ret0 (s17 ++ [49])
    else none
  else ret0 s17

theorem f47_w3b0_mem (k : Nat) (c47 : PV → ((List Int) → R) → R) (c69 : PV → (PV → R) → R) (retF : (List Int) → R) (NX_w3 : St → R) (p1 : PV) (p2 : PV) (s17 : List Int) (n18 : Int) : exec (f47_E k c47 c69) f47_cw3 (purgeK (f47_E k c47 c69) f47_cw3 (loopK NX_w3 (kont (f47_E k c47 c69) f47_code [1, 1, 1, 1, 0, 1, 0] (endK (f47_E k c47 c69) Try.f47 [] f47_un retF)))) (f47_hw3_0 p1 p2 s17 n18) = f47_w3b0 c47 c69 (fun y0 => retF y0) (fun s17 n18 => NX_w3 (f47_hw3_0 p1 p2 s17 n18)) p1 p2 s17 n18 := by kernel_rfl

noncomputable def f47_w3b0N (k : Nat) (c47 : PV → ((List Int) → R) → R) (c69 : PV → (PV → R) → R) (ret0 : (List Int) → R) (next_w3_0 : (List Int) → Int → R) (p1 : PV) (p2 : PV) (s17 : List Int) (n18 : Int) : R :=
  f47_w3b0 c47 c69 ret0 next_w3_0 p1 p2 s17 n18
theorem f47_w3b0_eq (k : Nat) (c47 : PV → ((List Int) → R) → R) (c69 : PV → (PV → R) → R) (retF : (List Int) → R) (NX_w3 : St → R) (p1 : PV) (p2 : PV) (s17 : List Int) (n18 : Int) : exec (f47_E k c47 c69) f47_cw3 (purgeK (f47_E k c47 c69) f47_cw3 (loopK NX_w3 (kont (f47_E k c47 c69) f47_code [1, 1, 1, 1, 0, 1, 0] (endK (f47_E k c47 c69) Try.f47 [] f47_un retF)))) (f47_hw3_0 p1 p2 s17 n18) = f47_w3b0N k c47 c69 (fun y0 => retF y0) (fun s17 n18 => NX_w3 (f47_hw3_0 p1 p2 s17 n18)) p1 p2 s17 n18 :=
  (f47_w3b0_mem k c47 c69 retF NX_w3 p1 p2 s17 n18)

noncomputable def f47_w3B (k : Nat) (c47 : PV → ((List Int) → R) → R) (c69 : PV → (PV → R) → R) (ret0 : (List Int) → R) (p1 : PV) (p2 : PV) (nx : (List Int) × Int → R) : (List Int) × Int → R := (fun s => f47_w3b0N k c47 c69 ret0 (fun s17 n18 => nx (s17, n18)) p1 p2 s.1 s.2)
noncomputable def f47_w3N (k : Nat) (c47 : PV → ((List Int) → R) → R) (c69 : PV → (PV → R) → R) (ret0 : (List Int) → R) (p1 : PV) (p2 : PV) (s17 : List Int) (n18 : Int) : R := loopR (f47_w3B k c47 c69 ret0 p1 p2) k (s17, n18)
theorem f47_w3_eq (k : Nat) (c47 : PV → ((List Int) → R) → R) (c69 : PV → (PV → R) → R) (retF : (List Int) → R) (p1 : PV) (p2 : PV) (s17 : List Int) (n18 : Int) : f47_w3A k c47 c69 retF p1 p2 s17 n18 = f47_w3N k c47 c69 (fun y0 => retF y0) p1 p2 s17 n18 :=
  Eq.mp (by kernel_rfl) (loop_sim (E := (f47_E k c47 c69)) (c := f47_cw3) (K := (kont (f47_E k c47 c69) f47_code [1, 1, 1, 1, 0, 1, 0] (endK (f47_E k c47 c69) Try.f47 [] f47_un retF))) (S := (List Int) × Int) (fun s => f47_hw3_0 p1 p2 s.1 s.2) (f47_w3B k c47 c69 (fun y0 => retF y0) p1 p2) (fun NX s => by
    exact Eq.mp (by kernel_rfl) (f47_w3b0_eq k c47 c69 retF NX p1 p2 s.1 s.2)) k (s17, n18))

noncomputable def f47_e (c47 : PV → ((List Int) → R) → R) (c69 : PV → (PV → R) → R) (ret0 : (List Int) → R) (w1 : PV → (List Int) → Int → R) (w2 : PV → (List Int) → Int → R) (w3 : PV → (List Int) → Int → R) (p1 : PV) : R :=
  c69 p1 fun p2 =>
  bif (decide ((PV.num (PV.fld p1 0)) = (4 : Int))) then
    w1 p2 [48] 0
  else bif (decide ((PV.num (PV.fld p1 0)) = (5 : Int))) then
    w2 p2 [49] 0
  else w3 p2 [] 0

theorem f47_e_mem (k : Nat) (c47 : PV → ((List Int) → R) → R) (c69 : PV → (PV → R) → R) (retF : (List Int) → R) (p1 : PV) : exec (f47_E k c47 c69) f47_code (endK (f47_E k c47 c69) Try.f47 [] f47_un retF) ⟨[.val 57 p1, .undef, .undef, .undef, .undef, .undef, .undef, .undef, .undef, .undef, .undef, .undef, .undef, .undef, .undef, .undef, .undef, .undef, .undef, .undef, .undef, .undef, .undef, .undef, .undef, .undef, .undef, .undef, .undef, .undef, .undef, .undef, .undef, .undef, .undef, .undef, .undef, .undef], []⟩ = f47_e c47 c69 (fun y0 => retF y0) (fun p2 s5 n6 => f47_w1A k c47 c69 retF p1 p2 s5 n6) (fun p2 s11 n12 => f47_w2A k c47 c69 retF p1 p2 s11 n12) (fun p2 s17 n18 => f47_w3A k c47 c69 retF p1 p2 s17 n18) p1 := by kernel_rfl

noncomputable def f47_N (k : Nat) (c47 : PV → ((List Int) → R) → R) (c69 : PV → (PV → R) → R) (ret0 : (List Int) → R) (p1 : PV) : R :=
  f47_e c47 c69 ret0 (fun p2 s5 n6 => f47_w1N k c47 c69 ret0 p1 p2 s5 n6) (fun p2 s11 n12 => f47_w2N k c47 c69 ret0 p1 p2 s11 n12) (fun p2 s17 n18 => f47_w3N k c47 c69 ret0 p1 p2 s17 n18) p1
theorem f47_eq (k : Nat) (c47 : PV → ((List Int) → R) → R) (c69 : PV → (PV → R) → R) (retF : (List Int) → R) (p1 : PV) : exec (f47_E k c47 c69) f47_code (endK (f47_E k c47 c69) Try.f47 [] f47_un retF) ⟨[.val 57 p1, .undef, .undef, .undef, .undef, .undef, .undef, .undef, .undef, .undef, .undef, .undef, .undef, .undef, .undef, .undef, .undef, .undef, .undef, .undef, .undef, .undef, .undef, .undef, .undef, .undef, .undef, .undef, .undef, .undef, .undef, .undef, .undef, .undef, .undef, .undef, .undef, .undef], []⟩ = f47_N k c47 c69 (fun y0 => retF y0) p1 :=
  (f47_e_mem k c47 c69 retF p1).trans (by rw [show (fun p2 s5 n6 => f47_w1A k c47 c69 retF p1 p2 s5 n6) = (fun p2 s5 n6 => f47_w1N k c47 c69 (fun y0 => retF y0) p1 p2 s5 n6) from funext fun p2 => funext fun s5 => funext fun n6 => f47_w1_eq k c47 c69 retF p1 p2 s5 n6, show (fun p2 s11 n12 => f47_w2A k c47 c69 retF p1 p2 s11 n12) = (fun p2 s11 n12 => f47_w2N k c47 c69 (fun y0 => retF y0) p1 p2 s11 n12) from funext fun p2 => funext fun s11 => funext fun n12 => f47_w2_eq k c47 c69 retF p1 p2 s11 n12, show (fun p2 s17 n18 => f47_w3A k c47 c69 retF p1 p2 s17 n18) = (fun p2 s17 n18 => f47_w3N k c47 c69 (fun y0 => retF y0) p1 p2 s17 n18) from funext fun p2 => funext fun s17 => funext fun n18 => f47_w3_eq k c47 c69 retF p1 p2 s17 n18]; rfl)

noncomputable def G47 : Nat → PV → ((List Int) → R) → R
  | 0, _, _ => none
  | k + 1, p1, ret0 => f47_N k (G47 k) (G69 k) ret0 p1
theorem S47 : ∀ k, Snd Try.prog 47 f47_I f47_O (fun x ret => G47 k x (fun y0 => ret y0))
  | 0 => snd_none
  | k + 1 => snd_step (E := f47_E k (G47 k) (G69 k)) rfl laidOut noNums (orc_ok (S47 k).o f47_D_ok (orc_ok (S69 k).o f69_D_ok orc0_ok)) (f := 47) (fn := Try.f47) (code := f47_code) Try.func47 (by kernel_rfl) (drawsOk_of laidOut (orc_ok (S47 k).o f47_D_ok (orc_ok (S69 k).o f69_D_ok orc0_ok)) mixed (by kernel_rfl)) f47_un f47_un_ok [] (fun _ => rfl)
      (fun x ret => f47_eq k (G47 k) (G69 k) ret x)

/- catchpole/catchpoleref8.SameValue -/
noncomputable def f39_I : PV × PV → List SV × Obs := fun x => ([.val 57 x.1, .val 57 x.2], [])
noncomputable def f39_D : List SV → Obs → Option (PV × PV)
  | [.val 57 p1, .val 57 p2], [] => some (p1, p2)
  | _, _ => none
theorem f39_D_ok (args : List SV) (B : Obs) (x : PV × PV) (h : f39_D args B = some x) : f39_I x = (args, B) := by
  unfold f39_D at h
  split at h
  · injection h with h; subst h; rfl
  · cases h
noncomputable def f39_O : Bool → Out := (fun y => ([.bool y], []))
noncomputable def f39_un : Out → Option (Bool)
  | ([.bool y0], []) => some y0
  | _ => none
theorem f39_un_ok (o : Out) (y : Bool) (h : f39_un o = some y) : o = f39_O y := by
  unfold f39_un at h
  split at h
  · injection h with h; subst h; rfl
  · cases h
noncomputable def f39_msk : Nat → Option (List Nat) := fun key => bif key == 12 then some [2, 3, 5] else none
noncomputable def f39_C (c39 : PV → PV → (Bool → R) → R) : Oracle := orc 39 f39_D f39_O (fun x ret => c39 x.1 x.2 (fun y0 => ret y0)) <| orc0
noncomputable def f39_E (k : Nat) (c39 : PV → PV → (Bool → R) → R) : Env := { P := Try.prog, nilOwn := fun d => false, fldOwn := fun d i => false, ownPar := ownPars, ownRet := false, mask := f39_msk, fuel := k, C := f39_C c39 }
noncomputable def f39_code : Code := Try.f39.body.getD .skip
noncomputable def f39_cw1 : Code := subC f39_code [1, 1, 0, 1, 0, 0]
noncomputable def f39_hw1_0 (p1 : PV) (p2 : PV) (n5 : Int) : St := ⟨[.dead, .dead, .ptr 2 [], .ptr 3 [], .dead, .int .i64 n5, .dead, .dead, .dead, .dead, .dead, .dead, .dead, .dead, .dead, .dead, .dead, .dead, .dead, .dead, .dead, .dead, .dead, .dead, .dead, .dead, .dead, .dead, .dead, .dead, .dead, .dead, .dead, .dead, .dead, .dead, .dead, .dead, .dead, .dead, .dead, .dead, .dead, .dead, .dead, .dead], [(2, .box 57 (.val 57 p1)), (3, .box 57 (.val 57 p2))]⟩
noncomputable def f39_w1A (k : Nat) (c39 : PV → PV → (Bool → R) → R) (retF : Bool → R) (p1 : PV) (p2 : PV) (n5 : Int) : R := loopM (f39_E k c39) f39_cw1 (kont (f39_E k c39) f39_code [1, 1, 0, 1, 0] (endK (f39_E k c39) Try.f39 [] f39_un retF)) k (f39_hw1_0 p1 p2 n5)
noncomputable def f39_w1b0 (c39 : PV → PV → (Bool → R) → R) (ret0 : Bool → R) (next_w1_0 : Int → R) (p1 : PV) (p2 : PV) (n5 : Int) : R :=
  bif (decide (n5 < (List.length (PV.els (PV.fld p1 2)) : Int))) then
    bif (true && decide ((0 : Int) ≤ n5) && decide (n5 < (List.length (PV.els (PV.fld p1 2)) : Int))) then
      bif (true && decide ((0 : Int) ≤ n5) && decide (n5 < (List.length (PV.els (PV.fld p2 2)) : Int))) then
        c39 (List.getD (PV.els (PV.fld p1 2)) (n5).toNat PV.nil) (List.getD (PV.els (PV.fld p2 2)) (n5).toNat PV.nil) fun b6 =>
        bif (!b6) then
          ret0 false
        else next_w1_0 (IntKind.wrap .i64 (n5 + (1 : Int)))
      else none
    else none
  else ret0 true

theorem f39_w1b0_mem (k : Nat) (c39 : PV → PV → (Bool → R) → R) (retF : Bool → R) (NX_w1 : St → R) (p1 : PV) (p2 : PV) (n5 : Int) : exec (f39_E k c39) f39_cw1 (purgeK (f39_E k c39) f39_cw1 (loopK NX_w1 (kont (f39_E k c39) f39_code [1, 1, 0, 1, 0] (endK (f39_E k c39) Try.f39 [] f39_un retF)))) (f39_hw1_0 p1 p2 n5) = f39_w1b0 c39 (fun y0 => retF y0) (fun n5 => NX_w1 (f39_hw1_0 p1 p2 n5)) p1 p2 n5 := by kernel_rfl

noncomputable def f39_w1b0N (k : Nat) (c39 : PV → PV → (Bool → R) → R) (ret0 : Bool → R) (next_w1_0 : Int → R) (p1 : PV) (p2 : PV) (n5 : Int) : R :=
  f39_w1b0 c39 ret0 next_w1_0 p1 p2 n5
theorem f39_w1b0_eq (k : Nat) (c39 : PV → PV → (Bool → R) → R) (retF : Bool → R) (NX_w1 : St → R) (p1 : PV) (p2 : PV) (n5 : Int) : exec (f39_E k c39) f39_cw1 (purgeK (f39_E k c39) f39_cw1 (loopK NX_w1 (kont (f39_E k c39) f39_code [1, 1, 0, 1, 0] (endK (f39_E k c39) Try.f39 [] f39_un retF)))) (f39_hw1_0 p1 p2 n5) = f39_w1b0N k c39 (fun y0 => retF y0) (fun n5 => NX_w1 (f39_hw1_0 p1 p2 n5)) p1 p2 n5 :=
  (f39_w1b0_mem k c39 retF NX_w1 p1 p2 n5)

noncomputable def f39_w1B (k : Nat) (c39 : PV → PV → (Bool → R) → R) (ret0 : Bool → R) (p1 : PV) (p2 : PV) (nx : Int → R) : Int → R := (fun s => f39_w1b0N k c39 ret0 (fun n5 => nx n5) p1 p2 s)
noncomputable def f39_w1N (k : Nat) (c39 : PV → PV → (Bool → R) → R) (ret0 : Bool → R) (p1 : PV) (p2 : PV) (n5 : Int) : R := loopR (f39_w1B k c39 ret0 p1 p2) k n5
theorem f39_w1_eq (k : Nat) (c39 : PV → PV → (Bool → R) → R) (retF : Bool → R) (p1 : PV) (p2 : PV) (n5 : Int) : f39_w1A k c39 retF p1 p2 n5 = f39_w1N k c39 (fun y0 => retF y0) p1 p2 n5 :=
  Eq.mp (by kernel_rfl) (loop_sim (E := (f39_E k c39)) (c := f39_cw1) (K := (kont (f39_E k c39) f39_code [1, 1, 0, 1, 0] (endK (f39_E k c39) Try.f39 [] f39_un retF))) (S := Int) (fun s => f39_hw1_0 p1 p2 s) (f39_w1B k c39 (fun y0 => retF y0) p1 p2) (fun NX s => by
    exact Eq.mp (by kernel_rfl) (f39_w1b0_eq k c39 retF NX p1 p2 s)) k n5)

noncomputable def f39_e (c39 : PV → PV → (Bool → R) → R) (ret0 : Bool → R) (w1 : Int → R) (p1 : PV) (p2 : PV) : R :=
  bif ((!(decide ((PV.num (PV.fld p1 0)) = (PV.num (PV.fld p2 0))))) == false) then
    bif ((!(decide ((PV.num (PV.fld p1 1)) = (PV.num (PV.fld p2 1))))) == false) then
      let b3 : Bool := (!(decide ((List.length (PV.els (PV.fld p1 2)) : Int) = (List.length (PV.els (PV.fld p2 2)) : Int))))
      bif b3 then
        ret0 false
      else w1 0
    else ret0 false
  else ret0 false

theorem f39_e_mem (k : Nat) (c39 : PV → PV → (Bool → R) → R) (retF : Bool → R) (p1 : PV) (p2 : PV) : exec (f39_E k c39) f39_code (endK (f39_E k c39) Try.f39 [] f39_un retF) ⟨[.val 57 p1, .val 57 p2, .undef, .undef, .undef, .undef, .undef, .undef, .undef, .undef, .undef, .undef, .undef, .undef, .undef, .undef, .undef, .undef, .undef, .undef, .undef, .undef, .undef, .undef, .undef, .undef, .undef, .undef, .undef, .undef, .undef, .undef, .undef, .undef, .undef, .undef, .undef, .undef, .undef, .undef, .undef, .undef, .undef, .undef, .undef, .undef], []⟩ = f39_e c39 (fun y0 => retF y0) (fun n5 => f39_w1A k c39 retF p1 p2 n5) p1 p2 := by kernel_rfl

noncomputable def f39_N (k : Nat) (c39 : PV → PV → (Bool → R) → R) (ret0 : Bool → R) (p1 : PV) (p2 : PV) : R :=
  f39_e c39 ret0 (fun n5 => f39_w1N k c39 ret0 p1 p2 n5) p1 p2
theorem f39_eq (k : Nat) (c39 : PV → PV → (Bool → R) → R) (retF : Bool → R) (p1 : PV) (p2 : PV) : exec (f39_E k c39) f39_code (endK (f39_E k c39) Try.f39 [] f39_un retF) ⟨[.val 57 p1, .val 57 p2, .undef, .undef, .undef, .undef, .undef, .undef, .undef, .undef, .undef, .undef, .undef, .undef, .undef, .undef, .undef, .undef, .undef, .undef, .undef, .undef, .undef, .undef, .undef, .undef, .undef, .undef, .undef, .undef, .undef, .undef, .undef, .undef, .undef, .undef, .undef, .undef, .undef, .undef, .undef, .undef, .undef, .undef, .undef, .undef], []⟩ = f39_N k c39 (fun y0 => retF y0) p1 p2 :=
  (f39_e_mem k c39 retF p1 p2).trans (by rw [show (fun n5 => f39_w1A k c39 retF p1 p2 n5) = (fun n5 => f39_w1N k c39 (fun y0 => retF y0) p1 p2 n5) from funext fun n5 => f39_w1_eq k c39 retF p1 p2 n5]; rfl)

noncomputable def G39 : Nat → PV → PV → (Bool → R) → R
  | 0, _, _, _ => none
  | k + 1, p1, p2, ret0 => f39_N k (G39 k) ret0 p1 p2
theorem S39 : ∀ k, Snd Try.prog 39 f39_I f39_O (fun x ret => G39 k x.1 x.2 (fun y0 => ret y0))
  | 0 => snd_none
  | k + 1 => snd_step (E := f39_E k (G39 k)) rfl laidOut noNums (orc_ok (S39 k).o f39_D_ok orc0_ok) (f := 39) (fn := Try.f39) (code := f39_code) Try.func39 (by kernel_rfl) (drawsOk_of laidOut (orc_ok (S39 k).o f39_D_ok orc0_ok) mixed (by kernel_rfl)) f39_un f39_un_ok [] (fun _ => rfl)
      (fun x ret => f39_eq k (G39 k) ret x.1 x.2)

/- catchpole/catchpolelaw11.BitsSays -/
noncomputable def f8_I : PV × PV × (List Int) × PV → List SV × Obs := fun x => ([.val 27 x.1, .val 30 x.2.1, .str x.2.2.1, .val 43 x.2.2.2], [])
noncomputable def f8_D : List SV → Obs → Option (PV × PV × (List Int) × PV)
  | [.val 27 p1, .val 30 p2, .str s3, .val 43 p4], [] => some (p1, p2, s3, p4)
  | _, _ => none
theorem f8_D_ok (args : List SV) (B : Obs) (x : PV × PV × (List Int) × PV) (h : f8_D args B = some x) : f8_I x = (args, B) := by
  unfold f8_D at h
  split at h
  · injection h with h; subst h; rfl
  · cases h
noncomputable def f8_O : Bool → Out := (fun y => ([.bool y], []))
noncomputable def f8_un : Out → Option (Bool)
  | ([.bool y0], []) => some y0
  | _ => none
theorem f8_un_ok (o : Out) (y : Bool) (h : f8_un o = some y) : o = f8_O y := by
  unfold f8_un at h
  split at h
  · injection h with h; subst h; rfl
  · cases h
noncomputable def f8_msk : Nat → Option (List Nat) := fun key =>  none
noncomputable def f8_C (c39 : PV → PV → (Bool → R) → R) (c40 : (Bool → R) → R) (c41 : PV → Int → (Bool → R) → R) (c42 : PV → Int → (Bool → R) → R) (c43 : PV → (List Int) → PV → (PV → Int → R) → R) (c44 : PV → (List Int) → PV → (PV → Int → R) → R) (c45 : PV → (PV → R) → R) (c46 : PV → ((List Int) → R) → R) (c47 : PV → ((List Int) → R) → R) (c48 : PV → (PV → R) → R) : Oracle := orc 39 f39_D f39_O (fun x ret => c39 x.1 x.2 (fun y0 => ret y0)) <| orc 40 f40_D f40_O (fun x ret => c40 (fun y0 => ret y0)) <| orc 41 f41_D f41_O (fun x ret => c41 x.1 x.2 (fun y0 => ret y0)) <| orc 42 f42_D f42_O (fun x ret => c42 x.1 x.2 (fun y0 => ret y0)) <| orc 43 f43_D f43_O (fun x ret => c43 x.1 x.2.1 x.2.2 (fun y0 y1 => ret (y0, y1))) <| orc 44 f44_D f44_O (fun x ret => c44 x.1 x.2.1 x.2.2 (fun y0 y1 => ret (y0, y1))) <| orc 45 f45_D f45_O (fun x ret => c45 x (fun y0 => ret y0)) <| orc 46 f46_D f46_O (fun x ret => c46 x (fun y0 => ret y0)) <| orc 47 f47_D f47_O (fun x ret => c47 x (fun y0 => ret y0)) <| orc 48 f48_D f48_O (fun x ret => c48 x (fun y0 => ret y0)) <| orc0
noncomputable def f8_E (k : Nat) (c39 : PV → PV → (Bool → R) → R) (c40 : (Bool → R) → R) (c41 : PV → Int → (Bool → R) → R) (c42 : PV → Int → (Bool → R) → R) (c43 : PV → (List Int) → PV → (PV → Int → R) → R) (c44 : PV → (List Int) → PV → (PV → Int → R) → R) (c45 : PV → (PV → R) → R) (c46 : PV → ((List Int) → R) → R) (c47 : PV → ((List Int) → R) → R) (c48 : PV → (PV → R) → R) : Env := { P := Try.prog, nilOwn := fun d => false, fldOwn := fun d i => false, ownPar := ownPars, ownRet := false, mask := f8_msk, fuel := k, C := f8_C c39 c40 c41 c42 c43 c44 c45 c46 c47 c48 }
noncomputable def f8_code : Code := Try.f8.body.getD .skip
noncomputable def f8_e (c39 : PV → PV → (Bool → R) → R) (c40 : (Bool → R) → R) (c41 : PV → Int → (Bool → R) → R) (c42 : PV → Int → (Bool → R) → R) (c43 : PV → (List Int) → PV → (PV → Int → R) → R) (c44 : PV → (List Int) → PV → (PV → Int → R) → R) (c45 : PV → (PV → R) → R) (c46 : PV → ((List Int) → R) → R) (c47 : PV → ((List Int) → R) → R) (c48 : PV → (PV → R) → R) (ret0 : Bool → R) (p1 : PV) (p2 : PV) (s3 : List Int) (p4 : PV) : R :=
  c40 fun b5 =>
  bif (!b5) then
    ret0 false
  else c41 p1 100 fun b6 =>
  bif (b6 == false) then
    c42 p2 40 fun b7 =>
    bif (b7 == false) then
      bif ((decide ((200 : Int) < (List.length s3 : Int))) == false) then
        bif (decide ((100 : Int) < (List.length (PV.els p4) : Int))) then
          ret0 true
        else c43 p1 s3 p4 fun p8 n9 =>
        c45 p1 fun p10 =>
        c44 p10 s3 p4 fun p11 n12 =>
        c46 p2 fun s13 =>
        c48 p2 fun p14 =>
        c47 p14 fun s15 =>
        bif ((decide ((s13 : List Int) = s15)) == true) then
          bif ((decide (n9 = n12)) == true) then
            c48 p8 fun p16 =>
            c39 p16 p11 fun b17 =>
            ret0 b17
          else ret0 false
        else ret0 false
      else ret0 true
    else ret0 true
  else ret0 true

theorem f8_e_mem (k : Nat) (c39 : PV → PV → (Bool → R) → R) (c40 : (Bool → R) → R) (c41 : PV → Int → (Bool → R) → R) (c42 : PV → Int → (Bool → R) → R) (c43 : PV → (List Int) → PV → (PV → Int → R) → R) (c44 : PV → (List Int) → PV → (PV → Int → R) → R) (c45 : PV → (PV → R) → R) (c46 : PV → ((List Int) → R) → R) (c47 : PV → ((List Int) → R) → R) (c48 : PV → (PV → R) → R) (retF : Bool → R) (p1 : PV) (p2 : PV) (s3 : List Int) (p4 : PV) : exec (f8_E k c39 c40 c41 c42 c43 c44 c45 c46 c47 c48) f8_code (endK (f8_E k c39 c40 c41 c42 c43 c44 c45 c46 c47 c48) Try.f8 [] f8_un retF) ⟨[.val 27 p1, .val 30 p2, .str s3, .val 43 p4, .undef, .undef, .undef, .undef, .undef, .undef, .undef, .undef, .undef, .undef, .undef, .undef, .undef, .undef, .undef, .undef, .undef, .undef, .undef, .undef, .undef, .undef, .undef, .undef, .undef, .undef, .undef, .undef, .undef, .undef, .undef, .undef, .undef, .undef, .undef, .undef, .undef, .undef, .undef, .undef, .undef, .undef, .undef, .undef, .undef, .undef, .undef, .undef, .undef, .undef, .undef, .undef, .undef, .undef, .undef, .undef, .undef, .undef, .undef], []⟩ = f8_e c39 c40 c41 c42 c43 c44 c45 c46 c47 c48 (fun y0 => retF y0) p1 p2 s3 p4 := by kernel_rfl

noncomputable def f8_N (k : Nat) (c39 : PV → PV → (Bool → R) → R) (c40 : (Bool → R) → R) (c41 : PV → Int → (Bool → R) → R) (c42 : PV → Int → (Bool → R) → R) (c43 : PV → (List Int) → PV → (PV → Int → R) → R) (c44 : PV → (List Int) → PV → (PV → Int → R) → R) (c45 : PV → (PV → R) → R) (c46 : PV → ((List Int) → R) → R) (c47 : PV → ((List Int) → R) → R) (c48 : PV → (PV → R) → R) (ret0 : Bool → R) (p1 : PV) (p2 : PV) (s3 : List Int) (p4 : PV) : R :=
  f8_e c39 c40 c41 c42 c43 c44 c45 c46 c47 c48 ret0 p1 p2 s3 p4
theorem f8_eq (k : Nat) (c39 : PV → PV → (Bool → R) → R) (c40 : (Bool → R) → R) (c41 : PV → Int → (Bool → R) → R) (c42 : PV → Int → (Bool → R) → R) (c43 : PV → (List Int) → PV → (PV → Int → R) → R) (c44 : PV → (List Int) → PV → (PV → Int → R) → R) (c45 : PV → (PV → R) → R) (c46 : PV → ((List Int) → R) → R) (c47 : PV → ((List Int) → R) → R) (c48 : PV → (PV → R) → R) (retF : Bool → R) (p1 : PV) (p2 : PV) (s3 : List Int) (p4 : PV) : exec (f8_E k c39 c40 c41 c42 c43 c44 c45 c46 c47 c48) f8_code (endK (f8_E k c39 c40 c41 c42 c43 c44 c45 c46 c47 c48) Try.f8 [] f8_un retF) ⟨[.val 27 p1, .val 30 p2, .str s3, .val 43 p4, .undef, .undef, .undef, .undef, .undef, .undef, .undef, .undef, .undef, .undef, .undef, .undef, .undef, .undef, .undef, .undef, .undef, .undef, .undef, .undef, .undef, .undef, .undef, .undef, .undef, .undef, .undef, .undef, .undef, .undef, .undef, .undef, .undef, .undef, .undef, .undef, .undef, .undef, .undef, .undef, .undef, .undef, .undef, .undef, .undef, .undef, .undef, .undef, .undef, .undef, .undef, .undef, .undef, .undef, .undef, .undef, .undef, .undef, .undef], []⟩ = f8_N k c39 c40 c41 c42 c43 c44 c45 c46 c47 c48 (fun y0 => retF y0) p1 p2 s3 p4 :=
  (f8_e_mem k c39 c40 c41 c42 c43 c44 c45 c46 c47 c48 retF p1 p2 s3 p4)

noncomputable def G8 : Nat → PV → PV → (List Int) → PV → (Bool → R) → R
  | 0, _, _, _, _, _ => none
  | k + 1, p1, p2, s3, p4, ret0 => f8_N k (G39 k) (G40 k) (G41 k) (G42 k) (G43 k) (G44 k) (G45 k) (G46 k) (G47 k) (G48 k) ret0 p1 p2 s3 p4
theorem S8 : ∀ k, Snd Try.prog 8 f8_I f8_O (fun x ret => G8 k x.1 x.2.1 x.2.2.1 x.2.2.2 (fun y0 => ret y0))
  | 0 => snd_none
  | k + 1 => snd_step (E := f8_E k (G39 k) (G40 k) (G41 k) (G42 k) (G43 k) (G44 k) (G45 k) (G46 k) (G47 k) (G48 k)) rfl laidOut noNums (orc_ok (S39 k).o f39_D_ok (orc_ok (S40 k).o f40_D_ok (orc_ok (S41 k).o f41_D_ok (orc_ok (S42 k).o f42_D_ok (orc_ok (S43 k).o f43_D_ok (orc_ok (S44 k).o f44_D_ok (orc_ok (S45 k).o f45_D_ok (orc_ok (S46 k).o f46_D_ok (orc_ok (S47 k).o f47_D_ok (orc_ok (S48 k).o f48_D_ok orc0_ok)))))))))) (f := 8) (fn := Try.f8) (code := f8_code) Try.func8 (by kernel_rfl) (drawsOk_of laidOut (orc_ok (S39 k).o f39_D_ok (orc_ok (S40 k).o f40_D_ok (orc_ok (S41 k).o f41_D_ok (orc_ok (S42 k).o f42_D_ok (orc_ok (S43 k).o f43_D_ok (orc_ok (S44 k).o f44_D_ok (orc_ok (S45 k).o f45_D_ok (orc_ok (S46 k).o f46_D_ok (orc_ok (S47 k).o f47_D_ok (orc_ok (S48 k).o f48_D_ok orc0_ok)))))))))) mixed (by kernel_rfl)) f8_un f8_un_ok [] (fun _ => rfl)
      (fun x ret => f8_eq k (G39 k) (G40 k) (G41 k) (G42 k) (G43 k) (G44 k) (G45 k) (G46 k) (G47 k) (G48 k) ret x.1 x.2.1 x.2.2.1 x.2.2.2)

/- catchpole/value.flat -/
noncomputable def f63_I : PV × (List PV) → List SV × Obs := fun x => ([.own 43 2000000, .val 30 x.1], [(2000000, .row 5 x.2)])
noncomputable def f63_D : List SV → Obs → Option (PV × (List PV))
  | [.own 43 2000000, .val 30 p1], [(2000000, .row 5 l2)] => some (p1, l2)
  | _, _ => none
theorem f63_D_ok (args : List SV) (B : Obs) (x : PV × (List PV)) (h : f63_D args B = some x) : f63_I x = (args, B) := by
  unfold f63_D at h
  split at h
  · injection h with h; subst h; rfl
  · cases h
noncomputable def f63_O : (List PV) → Out := (fun y => ([.own 43 2000000], [(2000000, .row 5 y)]))
noncomputable def f63_un : Out → Option ((List PV))
  | ([.own 43 2000000], [(2000000, .row 5 y0)]) => some y0
  | _ => none
theorem f63_un_ok (o : Out) (y : (List PV)) (h : f63_un o = some y) : o = f63_O y := by
  unfold f63_un at h
  split at h
  · injection h with h; subst h; rfl
  · cases h
noncomputable def f63_msk : Nat → Option (List Nat) := fun key => bif key == 12 then some [0, 16, 17, 18] else none
noncomputable def f63_C (c59 : PV → (PV → R) → R) (c63 : PV → (List PV) → ((List PV) → R) → R) : Oracle := orc 59 f59_D f59_O (fun x ret => c59 x (fun y0 => ret y0)) <| orc 63 f63_D f63_O (fun x ret => c63 x.1 x.2 (fun y0 => ret y0)) <| orc0
noncomputable def f63_E (k : Nat) (c59 : PV → (PV → R) → R) (c63 : PV → (List PV) → ((List PV) → R) → R) : Env := { P := Try.prog, nilOwn := fun d => false, fldOwn := fun d i => false, ownPar := ownPars, ownRet := true, mask := f63_msk, fuel := k, C := f63_C c59 c63 }
noncomputable def f63_code : Code := Try.f63.body.getD .skip
noncomputable def f63_cw1 : Code := subC f63_code [1, 1, 0, 1, 0, 0]
noncomputable def f63_hw1_0 (p3 : PV) (n5 : Int) (l6 : List PV) : St := ⟨[.own 43 2000000, .dead, .dead, .dead, .dead, .dead, .dead, .dead, .dead, .dead, .dead, .dead, .dead, .dead, .dead, .dead, .val 28 p3, .int .i64 (List.length (PV.els p3) : Int), .int .i64 n5, .dead, .dead, .dead, .dead, .dead, .dead, .dead, .dead], [(2000000, .row 5 l6)]⟩
noncomputable def f63_w1A (k : Nat) (c59 : PV → (PV → R) → R) (c63 : PV → (List PV) → ((List PV) → R) → R) (retF : (List PV) → R) (p3 : PV) (n5 : Int) (l6 : List PV) : R := loopM (f63_E k c59 c63) f63_cw1 (kont (f63_E k c59 c63) f63_code [1, 1, 0, 1, 0] (endK (f63_E k c59 c63) Try.f63 [2000000] f63_un retF)) k (f63_hw1_0 p3 n5 l6)
noncomputable def f63_w1b0 (c59 : PV → (PV → R) → R) (c63 : PV → (List PV) → ((List PV) → R) → R) (ret0 : (List PV) → R) (next_w1_0 : Int → (List PV) → R) (p3 : PV) (n5 : Int) (l6 : List PV) : R :=
  bif (decide (n5 < (List.length (PV.els p3) : Int))) then
    bif (true && decide ((0 : Int) ≤ n5) && decide (n5 < (List.length (PV.els p3) : Int))) then
      c63 (List.getD (PV.els p3) (n5).toNat PV.nil) l6 fun l7 =>
      next_w1_0 (IntKind.wrap .i64 (n5 + (1 : Int))) l7
    else none
  else ret0 l6

theorem f63_w1b0_mem (k : Nat) (c59 : PV → (PV → R) → R) (c63 : PV → (List PV) → ((List PV) → R) → R) (retF : (List PV) → R) (NX_w1 : St → R) (p3 : PV) (n5 : Int) (l6 : List PV) : exec (f63_E k c59 c63) f63_cw1 (purgeK (f63_E k c59 c63) f63_cw1 (loopK NX_w1 (kont (f63_E k c59 c63) f63_code [1, 1, 0, 1, 0] (endK (f63_E k c59 c63) Try.f63 [2000000] f63_un retF)))) (f63_hw1_0 p3 n5 l6) = f63_w1b0 c59 c63 (fun y0 => retF y0) (fun n5 l6 => NX_w1 (f63_hw1_0 p3 n5 l6)) p3 n5 l6 := by kernel_rfl

noncomputable def f63_w1b0N (k : Nat) (c59 : PV → (PV → R) → R) (c63 : PV → (List PV) → ((List PV) → R) → R) (ret0 : (List PV) → R) (next_w1_0 : Int → (List PV) → R) (p3 : PV) (n5 : Int) (l6 : List PV) : R :=
  f63_w1b0 c59 c63 ret0 next_w1_0 p3 n5 l6
theorem f63_w1b0_eq (k : Nat) (c59 : PV → (PV → R) → R) (c63 : PV → (List PV) → ((List PV) → R) → R) (retF : (List PV) → R) (NX_w1 : St → R) (p3 : PV) (n5 : Int) (l6 : List PV) : exec (f63_E k c59 c63) f63_cw1 (purgeK (f63_E k c59 c63) f63_cw1 (loopK NX_w1 (kont (f63_E k c59 c63) f63_code [1, 1, 0, 1, 0] (endK (f63_E k c59 c63) Try.f63 [2000000] f63_un retF)))) (f63_hw1_0 p3 n5 l6) = f63_w1b0N k c59 c63 (fun y0 => retF y0) (fun n5 l6 => NX_w1 (f63_hw1_0 p3 n5 l6)) p3 n5 l6 :=
  (f63_w1b0_mem k c59 c63 retF NX_w1 p3 n5 l6)

noncomputable def f63_w1B (k : Nat) (c59 : PV → (PV → R) → R) (c63 : PV → (List PV) → ((List PV) → R) → R) (ret0 : (List PV) → R) (p3 : PV) (nx : Int × (List PV) → R) : Int × (List PV) → R := (fun s => f63_w1b0N k c59 c63 ret0 (fun n5 l6 => nx (n5, l6)) p3 s.1 s.2)
noncomputable def f63_w1N (k : Nat) (c59 : PV → (PV → R) → R) (c63 : PV → (List PV) → ((List PV) → R) → R) (ret0 : (List PV) → R) (p3 : PV) (n5 : Int) (l6 : List PV) : R := loopR (f63_w1B k c59 c63 ret0 p3) k (n5, l6)
theorem f63_w1_eq (k : Nat) (c59 : PV → (PV → R) → R) (c63 : PV → (List PV) → ((List PV) → R) → R) (retF : (List PV) → R) (p3 : PV) (n5 : Int) (l6 : List PV) : f63_w1A k c59 c63 retF p3 n5 l6 = f63_w1N k c59 c63 (fun y0 => retF y0) p3 n5 l6 :=
  Eq.mp (by kernel_rfl) (loop_sim (E := (f63_E k c59 c63)) (c := f63_cw1) (K := (kont (f63_E k c59 c63) f63_code [1, 1, 0, 1, 0] (endK (f63_E k c59 c63) Try.f63 [2000000] f63_un retF))) (S := Int × (List PV)) (fun s => f63_hw1_0 p3 s.1 s.2) (f63_w1B k c59 c63 (fun y0 => retF y0) p3) (fun NX s => by
    exact Eq.mp (by kernel_rfl) (f63_w1b0_eq k c59 c63 retF NX p3 s.1 s.2)) k (n5, l6))

noncomputable def f63_cw2 : Code := subC f63_code [1, 1, 0, 1, 0, 0]
noncomputable def f63_hw2_0 (p8 : PV) (n10 : Int) (l11 : List PV) : St := ⟨[.own 43 2000000, .dead, .dead, .dead, .dead, .dead, .dead, .dead, .dead, .dead, .dead, .dead, .dead, .dead, .dead, .dead, .val 28 p8, .int .i64 (List.length (PV.els p8) : Int), .int .i64 n10, .dead, .dead, .dead, .dead, .dead, .dead, .dead, .dead], [(2000000, .row 5 l11)]⟩
noncomputable def f63_w2A (k : Nat) (c59 : PV → (PV → R) → R) (c63 : PV → (List PV) → ((List PV) → R) → R) (retF : (List PV) → R) (p8 : PV) (n10 : Int) (l11 : List PV) : R := loopM (f63_E k c59 c63) f63_cw2 (kont (f63_E k c59 c63) f63_code [1, 1, 0, 1, 0] (endK (f63_E k c59 c63) Try.f63 [2000000] f63_un retF)) k (f63_hw2_0 p8 n10 l11)
noncomputable def f63_w2b0 (c59 : PV → (PV → R) → R) (c63 : PV → (List PV) → ((List PV) → R) → R) (ret0 : (List PV) → R) (next_w2_0 : Int → (List PV) → R) (p8 : PV) (n10 : Int) (l11 : List PV) : R :=
  bif (decide (n10 < (List.length (PV.els p8) : Int))) then
    bif (true && decide ((0 : Int) ≤ n10) && decide (n10 < (List.length (PV.els p8) : Int))) then
      c63 (List.getD (PV.els p8) (n10).toNat PV.nil) l11 fun l12 =>
      next_w2_0 (IntKind.wrap .i64 (n10 + (1 : Int))) l12
    else none
  else ret0 l11

theorem f63_w2b0_mem (k : Nat) (c59 : PV → (PV → R) → R) (c63 : PV → (List PV) → ((List PV) → R) → R) (retF : (List PV) → R) (NX_w2 : St → R) (p8 : PV) (n10 : Int) (l11 : List PV) : exec (f63_E k c59 c63) f63_cw2 (purgeK (f63_E k c59 c63) f63_cw2 (loopK NX_w2 (kont (f63_E k c59 c63) f63_code [1, 1, 0, 1, 0] (endK (f63_E k c59 c63) Try.f63 [2000000] f63_un retF)))) (f63_hw2_0 p8 n10 l11) = f63_w2b0 c59 c63 (fun y0 => retF y0) (fun n10 l11 => NX_w2 (f63_hw2_0 p8 n10 l11)) p8 n10 l11 := by kernel_rfl

noncomputable def f63_w2b0N (k : Nat) (c59 : PV → (PV → R) → R) (c63 : PV → (List PV) → ((List PV) → R) → R) (ret0 : (List PV) → R) (next_w2_0 : Int → (List PV) → R) (p8 : PV) (n10 : Int) (l11 : List PV) : R :=
  f63_w2b0 c59 c63 ret0 next_w2_0 p8 n10 l11
theorem f63_w2b0_eq (k : Nat) (c59 : PV → (PV → R) → R) (c63 : PV → (List PV) → ((List PV) → R) → R) (retF : (List PV) → R) (NX_w2 : St → R) (p8 : PV) (n10 : Int) (l11 : List PV) : exec (f63_E k c59 c63) f63_cw2 (purgeK (f63_E k c59 c63) f63_cw2 (loopK NX_w2 (kont (f63_E k c59 c63) f63_code [1, 1, 0, 1, 0] (endK (f63_E k c59 c63) Try.f63 [2000000] f63_un retF)))) (f63_hw2_0 p8 n10 l11) = f63_w2b0N k c59 c63 (fun y0 => retF y0) (fun n10 l11 => NX_w2 (f63_hw2_0 p8 n10 l11)) p8 n10 l11 :=
  (f63_w2b0_mem k c59 c63 retF NX_w2 p8 n10 l11)

noncomputable def f63_w2B (k : Nat) (c59 : PV → (PV → R) → R) (c63 : PV → (List PV) → ((List PV) → R) → R) (ret0 : (List PV) → R) (p8 : PV) (nx : Int × (List PV) → R) : Int × (List PV) → R := (fun s => f63_w2b0N k c59 c63 ret0 (fun n10 l11 => nx (n10, l11)) p8 s.1 s.2)
noncomputable def f63_w2N (k : Nat) (c59 : PV → (PV → R) → R) (c63 : PV → (List PV) → ((List PV) → R) → R) (ret0 : (List PV) → R) (p8 : PV) (n10 : Int) (l11 : List PV) : R := loopR (f63_w2B k c59 c63 ret0 p8) k (n10, l11)
theorem f63_w2_eq (k : Nat) (c59 : PV → (PV → R) → R) (c63 : PV → (List PV) → ((List PV) → R) → R) (retF : (List PV) → R) (p8 : PV) (n10 : Int) (l11 : List PV) : f63_w2A k c59 c63 retF p8 n10 l11 = f63_w2N k c59 c63 (fun y0 => retF y0) p8 n10 l11 :=
  Eq.mp (by kernel_rfl) (loop_sim (E := (f63_E k c59 c63)) (c := f63_cw2) (K := (kont (f63_E k c59 c63) f63_code [1, 1, 0, 1, 0] (endK (f63_E k c59 c63) Try.f63 [2000000] f63_un retF))) (S := Int × (List PV)) (fun s => f63_hw2_0 p8 s.1 s.2) (f63_w2B k c59 c63 (fun y0 => retF y0) p8) (fun NX s => by
    exact Eq.mp (by kernel_rfl) (f63_w2b0_eq k c59 c63 retF NX p8 s.1 s.2)) k (n10, l11))

noncomputable def f63_e (c59 : PV → (PV → R) → R) (c63 : PV → (List PV) → ((List PV) → R) → R) (ret0 : (List PV) → R) (w1 : PV → Int → (List PV) → R) (w2 : PV → Int → (List PV) → R) (p1 : PV) (l2 : List PV) : R :=
  bif (decide ((PV.num (PV.fld p1 0)) = (2 : Int))) then
    bif (true && roomy (List.length l2 + List.length [(PV.int (PV.num (PV.fld p1 1)))]) 1) then
      c59 p1 fun p3 =>
      w1 p3 0 (l2 ++ [(PV.int (PV.num (PV.fld p1 1)))])
    else none
  else c59 p1 fun p8 =>
  w2 p8 0 l2

theorem f63_e_mem (k : Nat) (c59 : PV → (PV → R) → R) (c63 : PV → (List PV) → ((List PV) → R) → R) (retF : (List PV) → R) (p1 : PV) (l2 : List PV) : exec (f63_E k c59 c63) f63_code (endK (f63_E k c59 c63) Try.f63 [2000000] f63_un retF) ⟨[.own 43 2000000, .val 30 p1, .undef, .undef, .undef, .undef, .undef, .undef, .undef, .undef, .undef, .undef, .undef, .undef, .undef, .undef, .undef, .undef, .undef, .undef, .undef, .undef, .undef, .undef, .undef, .undef, .undef], [(2000000, .row 5 l2)]⟩ = f63_e c59 c63 (fun y0 => retF y0) (fun p3 n5 l6 => f63_w1A k c59 c63 retF p3 n5 l6) (fun p8 n10 l11 => f63_w2A k c59 c63 retF p8 n10 l11) p1 l2 := by kernel_rfl

noncomputable def f63_N (k : Nat) (c59 : PV → (PV → R) → R) (c63 : PV → (List PV) → ((List PV) → R) → R) (ret0 : (List PV) → R) (p1 : PV) (l2 : List PV) : R :=
  f63_e c59 c63 ret0 (fun p3 n5 l6 => f63_w1N k c59 c63 ret0 p3 n5 l6) (fun p8 n10 l11 => f63_w2N k c59 c63 ret0 p8 n10 l11) p1 l2
theorem f63_eq (k : Nat) (c59 : PV → (PV → R) → R) (c63 : PV → (List PV) → ((List PV) → R) → R) (retF : (List PV) → R) (p1 : PV) (l2 : List PV) : exec (f63_E k c59 c63) f63_code (endK (f63_E k c59 c63) Try.f63 [2000000] f63_un retF) ⟨[.own 43 2000000, .val 30 p1, .undef, .undef, .undef, .undef, .undef, .undef, .undef, .undef, .undef, .undef, .undef, .undef, .undef, .undef, .undef, .undef, .undef, .undef, .undef, .undef, .undef, .undef, .undef, .undef, .undef], [(2000000, .row 5 l2)]⟩ = f63_N k c59 c63 (fun y0 => retF y0) p1 l2 :=
  (f63_e_mem k c59 c63 retF p1 l2).trans (by rw [show (fun p3 n5 l6 => f63_w1A k c59 c63 retF p3 n5 l6) = (fun p3 n5 l6 => f63_w1N k c59 c63 (fun y0 => retF y0) p3 n5 l6) from funext fun p3 => funext fun n5 => funext fun l6 => f63_w1_eq k c59 c63 retF p3 n5 l6, show (fun p8 n10 l11 => f63_w2A k c59 c63 retF p8 n10 l11) = (fun p8 n10 l11 => f63_w2N k c59 c63 (fun y0 => retF y0) p8 n10 l11) from funext fun p8 => funext fun n10 => funext fun l11 => f63_w2_eq k c59 c63 retF p8 n10 l11]; rfl)

noncomputable def G63 : Nat → PV → (List PV) → ((List PV) → R) → R
  | 0, _, _, _ => none
  | k + 1, p1, l2, ret0 => f63_N k (G59 k) (G63 k) ret0 p1 l2
theorem S63 : ∀ k, Snd Try.prog 63 f63_I f63_O (fun x ret => G63 k x.1 x.2 (fun y0 => ret y0))
  | 0 => snd_none
  | k + 1 => snd_step (E := f63_E k (G59 k) (G63 k)) rfl laidOut noNums (orc_ok (S59 k).o f59_D_ok (orc_ok (S63 k).o f63_D_ok orc0_ok)) (f := 63) (fn := Try.f63) (code := f63_code) Try.func63 (by kernel_rfl) (drawsOk_of laidOut (orc_ok (S59 k).o f59_D_ok (orc_ok (S63 k).o f63_D_ok orc0_ok)) mixed (by kernel_rfl)) f63_un f63_un_ok [2000000] (fun _ => rfl)
      (fun x ret => f63_eq k (G59 k) (G63 k) ret x.1 x.2)

/- catchpole/value.Flat -/
noncomputable def f27_I : PV → List SV × Obs := fun x => ([.val 30 x], [])
noncomputable def f27_D : List SV → Obs → Option (PV)
  | [.val 30 p1], [] => some p1
  | _, _ => none
theorem f27_D_ok (args : List SV) (B : Obs) (x : PV) (h : f27_D args B = some x) : f27_I x = (args, B) := by
  unfold f27_D at h
  split at h
  · injection h with h; subst h; rfl
  · cases h
noncomputable def f27_O : PV → Out := (fun y => ([.val 43 y], []))
noncomputable def f27_un : Out → Option (PV)
  | ([.val 43 y0], []) => some y0
  | _ => none
theorem f27_un_ok (o : Out) (y : PV) (h : f27_un o = some y) : o = f27_O y := by
  unfold f27_un at h
  split at h
  · injection h with h; subst h; rfl
  · cases h
noncomputable def f27_msk : Nat → Option (List Nat) := fun key =>  none
noncomputable def f27_C (c63 : PV → (List PV) → ((List PV) → R) → R) : Oracle := orc 63 f63_D f63_O (fun x ret => c63 x.1 x.2 (fun y0 => ret y0)) <| orc0
noncomputable def f27_E (k : Nat) (c63 : PV → (List PV) → ((List PV) → R) → R) : Env := { P := Try.prog, nilOwn := fun d => false, fldOwn := fun d i => false, ownPar := ownPars, ownRet := false, mask := f27_msk, fuel := k, C := f27_C c63 }
noncomputable def f27_code : Code := Try.f27.body.getD .skip
noncomputable def f27_e (c63 : PV → (List PV) → ((List PV) → R) → R) (ret0 : PV → R) (p1 : PV) : R :=
  c63 p1 [] fun l2 =>
  ret0 (PV.list l2)

theorem f27_e_mem (k : Nat) (c63 : PV → (List PV) → ((List PV) → R) → R) (retF : PV → R) (p1 : PV) : exec (f27_E k c63) f27_code (endK (f27_E k c63) Try.f27 [] f27_un retF) ⟨[.val 30 p1, .undef, .undef, .undef, .undef], []⟩ = f27_e c63 (fun y0 => retF y0) p1 := by kernel_rfl

noncomputable def f27_N (k : Nat) (c63 : PV → (List PV) → ((List PV) → R) → R) (ret0 : PV → R) (p1 : PV) : R :=
  f27_e c63 ret0 p1
theorem f27_eq (k : Nat) (c63 : PV → (List PV) → ((List PV) → R) → R) (retF : PV → R) (p1 : PV) : exec (f27_E k c63) f27_code (endK (f27_E k c63) Try.f27 [] f27_un retF) ⟨[.val 30 p1, .undef, .undef, .undef, .undef], []⟩ = f27_N k c63 (fun y0 => retF y0) p1 :=
  (f27_e_mem k c63 retF p1)

noncomputable def G27 : Nat → PV → (PV → R) → R
  | 0, _, _ => none
  | k + 1, p1, ret0 => f27_N k (G63 k) ret0 p1
theorem S27 : ∀ k, Snd Try.prog 27 f27_I f27_O (fun x ret => G27 k x (fun y0 => ret y0))
  | 0 => snd_none
  | k + 1 => snd_step (E := f27_E k (G63 k)) rfl laidOut noNums (orc_ok (S63 k).o f63_D_ok orc0_ok) (f := 27) (fn := Try.f27) (code := f27_code) Try.func27 (by kernel_rfl) (drawsOk_of laidOut (orc_ok (S63 k).o f63_D_ok orc0_ok) mixed (by kernel_rfl)) f27_un f27_un_ok [] (fun _ => rfl)
      (fun x ret => f27_eq k (G63 k) ret x)

/- catchpole/value.Len -/
noncomputable def f23_I : PV → List SV × Obs := fun x => ([.val 30 x], [])
noncomputable def f23_D : List SV → Obs → Option (PV)
  | [.val 30 p1], [] => some p1
  | _, _ => none
theorem f23_D_ok (args : List SV) (B : Obs) (x : PV) (h : f23_D args B = some x) : f23_I x = (args, B) := by
  unfold f23_D at h
  split at h
  · injection h with h; subst h; rfl
  · cases h
noncomputable def f23_O : Int → Out := (fun y => ([.int .i64 y], []))
noncomputable def f23_un : Out → Option (Int)
  | ([.int .i64 y0], []) => some y0
  | _ => none
theorem f23_un_ok (o : Out) (y : Int) (h : f23_un o = some y) : o = f23_O y := by
  unfold f23_un at h
  split at h
  · injection h with h; subst h; rfl
  · cases h
noncomputable def f23_msk : Nat → Option (List Nat) := fun key =>  none
noncomputable def f23_C (c27 : PV → (PV → R) → R) : Oracle := orc 27 f27_D f27_O (fun x ret => c27 x (fun y0 => ret y0)) <| orc0
noncomputable def f23_E (k : Nat) (c27 : PV → (PV → R) → R) : Env := { P := Try.prog, nilOwn := fun d => false, fldOwn := fun d i => false, ownPar := ownPars, ownRet := false, mask := f23_msk, fuel := k, C := f23_C c27 }
noncomputable def f23_code : Code := Try.f23.body.getD .skip
noncomputable def f23_e (c27 : PV → (PV → R) → R) (ret0 : Int → R) (p1 : PV) : R :=
  c27 p1 fun p2 =>
  ret0 (List.length (PV.els p2) : Int)

theorem f23_e_mem (k : Nat) (c27 : PV → (PV → R) → R) (retF : Int → R) (p1 : PV) : exec (f23_E k c27) f23_code (endK (f23_E k c27) Try.f23 [] f23_un retF) ⟨[.val 30 p1, .undef, .undef, .undef, .undef, .undef], []⟩ = f23_e c27 (fun y0 => retF y0) p1 := by kernel_rfl

noncomputable def f23_N (k : Nat) (c27 : PV → (PV → R) → R) (ret0 : Int → R) (p1 : PV) : R :=
  f23_e c27 ret0 p1
theorem f23_eq (k : Nat) (c27 : PV → (PV → R) → R) (retF : Int → R) (p1 : PV) : exec (f23_E k c27) f23_code (endK (f23_E k c27) Try.f23 [] f23_un retF) ⟨[.val 30 p1, .undef, .undef, .undef, .undef, .undef], []⟩ = f23_N k c27 (fun y0 => retF y0) p1 :=
  (f23_e_mem k c27 retF p1)

noncomputable def G23 : Nat → PV → (Int → R) → R
  | 0, _, _ => none
  | k + 1, p1, ret0 => f23_N k (G27 k) ret0 p1
theorem S23 : ∀ k, Snd Try.prog 23 f23_I f23_O (fun x ret => G23 k x (fun y0 => ret y0))
  | 0 => snd_none
  | k + 1 => snd_step (E := f23_E k (G27 k)) rfl laidOut noNums (orc_ok (S27 k).o f27_D_ok orc0_ok) (f := 23) (fn := Try.f23) (code := f23_code) Try.func23 (by kernel_rfl) (drawsOk_of laidOut (orc_ok (S27 k).o f27_D_ok orc0_ok) mixed (by kernel_rfl)) f23_un f23_un_ok [] (fun _ => rfl)
      (fun x ret => f23_eq k (G27 k) ret x)

/- catchpole/value.kind -/
noncomputable def f78_I : PV → List SV × Obs := fun x => ([.val 30 x], [])
noncomputable def f78_D : List SV → Obs → Option (PV)
  | [.val 30 p1], [] => some p1
  | _, _ => none
theorem f78_D_ok (args : List SV) (B : Obs) (x : PV) (h : f78_D args B = some x) : f78_I x = (args, B) := by
  unfold f78_D at h
  split at h
  · injection h with h; subst h; rfl
  · cases h
noncomputable def f78_O : Int × Int → Out := (fun y => ([.int .i64 y.1, .int .i64 y.2], []))
noncomputable def f78_un : Out → Option (Int × Int)
  | ([.int .i64 y0, .int .i64 y1], []) => some (y0, y1)
  | _ => none
theorem f78_un_ok (o : Out) (y : Int × Int) (h : f78_un o = some y) : o = f78_O y := by
  unfold f78_un at h
  split at h
  · injection h with h; subst h; rfl
  · cases h
noncomputable def f78_msk : Nat → Option (List Nat) := fun key =>  none
noncomputable def f78_C : Oracle := orc0
noncomputable def f78_E (k : Nat) : Env := { P := Try.prog, nilOwn := fun d => false, fldOwn := fun d i => false, ownPar := ownPars, ownRet := false, mask := f78_msk, fuel := k, C := f78_C }
noncomputable def f78_code : Code := Try.f78.body.getD .skip
noncomputable def f78_e (ret0 : Int → Int → R) (p1 : PV) : R :=
  bif (decide ((PV.num (PV.fld p1 0)) = (1 : Int))) then
    ret0 1 0
  else bif (decide ((PV.num (PV.fld p1 0)) = (2 : Int))) then
    ret0 2 0
  else bif (decide ((PV.num (PV.fld p1 0)) = (3 : Int))) then
    ret0 3 2
  else bif (decide ((PV.num (PV.fld p1 0)) = (4 : Int))) then
    ret0 4 1
  else bif (decide ((PV.num (PV.fld p1 0)) = (5 : Int))) then
    ret0 4 1
  else bif (decide ((PV.num (PV.fld p1 0)) = (6 : Int))) then
    ret0 5 (List.length (PV.els (PV.fld p1 2)) : Int)
  else bif (decide ((PV.num (PV.fld p1 0)) = (7 : Int))) then
    ret0 6 1
  else ret0 0 0

theorem f78_e_mem (k : Nat) (retF : Int × Int → R) (p1 : PV) : exec (f78_E k) f78_code (endK (f78_E k) Try.f78 [] f78_un retF) ⟨[.val 30 p1, .undef, .undef, .undef, .undef, .undef, .undef, .undef, .undef, .undef, .undef, .undef, .undef, .undef, .undef, .undef, .undef, .undef, .undef, .undef, .undef, .undef], []⟩ = f78_e (fun y0 y1 => retF (y0, y1)) p1 := by kernel_rfl

noncomputable def f78_N (k : Nat) (ret0 : Int → Int → R) (p1 : PV) : R :=
  f78_e ret0 p1
theorem f78_eq (k : Nat) (retF : Int × Int → R) (p1 : PV) : exec (f78_E k) f78_code (endK (f78_E k) Try.f78 [] f78_un retF) ⟨[.val 30 p1, .undef, .undef, .undef, .undef, .undef, .undef, .undef, .undef, .undef, .undef, .undef, .undef, .undef, .undef, .undef, .undef, .undef, .undef, .undef, .undef, .undef], []⟩ = f78_N k (fun y0 y1 => retF (y0, y1)) p1 :=
  (f78_e_mem k retF p1)

noncomputable def G78 : Nat → PV → (Int → Int → R) → R
  | 0, _, _ => none
  | k + 1, p1, ret0 => f78_N k  ret0 p1
theorem S78 : ∀ k, Snd Try.prog 78 f78_I f78_O (fun x ret => G78 k x (fun y0 y1 => ret (y0, y1)))
  | 0 => snd_none
  | k + 1 => snd_step (E := f78_E k ) rfl laidOut noNums orc0_ok (f := 78) (fn := Try.f78) (code := f78_code) Try.func78 (by kernel_rfl) (drawsOk_of laidOut orc0_ok mixed (by kernel_rfl)) f78_un f78_un_ok [] (fun _ => rfl)
      (fun x ret => f78_eq k  ret x)

/- catchpole/value.good$1 -/
noncomputable def f81_I : PV × PV → List SV × Obs := fun x => ([.val 30 x.1, .ptr 4000000 []], [(4000000, .box 27 (.val 27 x.2))])
noncomputable def f81_D : List SV → Obs → Option (PV × PV)
  | [.val 30 p1, .ptr 4000000 []], [(4000000, .box 27 (.val 27 p2))] => some (p1, p2)
  | _, _ => none
theorem f81_D_ok (args : List SV) (B : Obs) (x : PV × PV) (h : f81_D args B = some x) : f81_I x = (args, B) := by
  unfold f81_D at h
  split at h
  · injection h with h; subst h; rfl
  · cases h
noncomputable def f81_O : Bool × PV → Out := (fun y => ([.bool y.1], [(4000000, .box 27 (.val 27 y.2))]))
noncomputable def f81_un : Out → Option (Bool × PV)
  | ([.bool y0], [(4000000, .box 27 (.val 27 y1))]) => some (y0, y1)
  | _ => none
theorem f81_un_ok (o : Out) (y : Bool × PV) (h : f81_un o = some y) : o = f81_O y := by
  unfold f81_un at h
  split at h
  · injection h with h; subst h; rfl
  · cases h
/- slices.IndexFunc[[]catchpole/value.Value,catchpole/value.Value] -/
noncomputable def f91_I : PV × PV → List SV × Obs := fun x => ([.val 28 x.1, .fn 81 [.ptr 4001000 []]], [(4001000, .box 27 (.val 27 x.2))])
noncomputable def f91_D : List SV → Obs → Option (PV × PV)
  | [.val 28 p1, .fn 81 [.ptr 4001000 []]], [(4001000, .box 27 (.val 27 p2))] => some (p1, p2)
  | _, _ => none
theorem f91_D_ok (args : List SV) (B : Obs) (x : PV × PV) (h : f91_D args B = some x) : f91_I x = (args, B) := by
  unfold f91_D at h
  split at h
  · injection h with h; subst h; rfl
  · cases h
noncomputable def f91_O : Int × PV → Out := (fun y => ([.int .i64 y.1], [(4001000, .box 27 (.val 27 y.2))]))
noncomputable def f91_un : Out → Option (Int × PV)
  | ([.int .i64 y0], [(4001000, .box 27 (.val 27 y1))]) => some (y0, y1)
  | _ => none
theorem f91_un_ok (o : Out) (y : Int × PV) (h : f91_un o = some y) : o = f91_O y := by
  unfold f91_un at h
  split at h
  · injection h with h; subst h; rfl
  · cases h
/- slices.ContainsFunc[[]catchpole/value.Value,catchpole/value.Value] -/
noncomputable def f80_I : PV × PV → List SV × Obs := fun x => ([.val 28 x.1, .fn 81 [.ptr 4001000 []]], [(4001000, .box 27 (.val 27 x.2))])
noncomputable def f80_D : List SV → Obs → Option (PV × PV)
  | [.val 28 p1, .fn 81 [.ptr 4001000 []]], [(4001000, .box 27 (.val 27 p2))] => some (p1, p2)
  | _, _ => none
theorem f80_D_ok (args : List SV) (B : Obs) (x : PV × PV) (h : f80_D args B = some x) : f80_I x = (args, B) := by
  unfold f80_D at h
  split at h
  · injection h with h; subst h; rfl
  · cases h
noncomputable def f80_O : Bool × PV → Out := (fun y => ([.bool y.1], [(4001000, .box 27 (.val 27 y.2))]))
noncomputable def f80_un : Out → Option (Bool × PV)
  | ([.bool y0], [(4001000, .box 27 (.val 27 y1))]) => some (y0, y1)
  | _ => none
theorem f80_un_ok (o : Out) (y : Bool × PV) (h : f80_un o = some y) : o = f80_O y := by
  unfold f80_un at h
  split at h
  · injection h with h; subst h; rfl
  · cases h
/- catchpole/value.good -/
noncomputable def f58_I : PV × PV → List SV × Obs := fun x => ([.val 27 x.1, .val 30 x.2], [])
noncomputable def f58_D : List SV → Obs → Option (PV × PV)
  | [.val 27 p1, .val 30 p2], [] => some (p1, p2)
  | _, _ => none
theorem f58_D_ok (args : List SV) (B : Obs) (x : PV × PV) (h : f58_D args B = some x) : f58_I x = (args, B) := by
  unfold f58_D at h
  split at h
  · injection h with h; subst h; rfl
  · cases h
noncomputable def f58_O : Bool → Out := (fun y => ([.bool y], []))
noncomputable def f58_un : Out → Option (Bool)
  | ([.bool y0], []) => some y0
  | _ => none
theorem f58_un_ok (o : Out) (y : Bool) (h : f58_un o = some y) : o = f58_O y := by
  unfold f58_un at h
  split at h
  · injection h with h; subst h; rfl
  · cases h
noncomputable def f81_msk : Nat → Option (List Nat) := fun key =>  none
noncomputable def f81_C (c58 : PV → PV → (Bool → R) → R) : Oracle := orc 58 f58_D f58_O (fun x ret => c58 x.1 x.2 (fun y0 => ret y0)) <| orc0
noncomputable def f81_E (k : Nat) (c58 : PV → PV → (Bool → R) → R) : Env := { P := Try.prog, nilOwn := fun d => false, fldOwn := fun d i => false, ownPar := ownPars, ownRet := false, mask := f81_msk, fuel := k, C := f81_C c58 }
noncomputable def f81_code : Code := Try.f81.body.getD .skip
noncomputable def f81_e (c58 : PV → PV → (Bool → R) → R) (ret0 : Bool → PV → R) (p1 : PV) (p2 : PV) : R :=
  bif (true && decide ((0 : Int) ≤ (0 : Int)) && decide ((0 : Int) < (List.length (PV.els (PV.fld p2 3)) : Int))) then
    c58 (List.getD (PV.els (PV.fld p2 3)) ((0 : Int)).toNat PV.nil) p1 fun b3 =>
    ret0 (!b3) p2
  else none

theorem f81_e_mem (k : Nat) (c58 : PV → PV → (Bool → R) → R) (retF : Bool × PV → R) (p1 : PV) (p2 : PV) : exec (f81_E k c58) f81_code (endK (f81_E k c58) Try.f81 [4000000] f81_un retF) ⟨[.val 30 p1, .ptr 4000000 [], .undef, .undef, .undef, .undef, .undef, .undef, .undef, .undef, .undef], [(4000000, .box 27 (.val 27 p2))]⟩ = f81_e c58 (fun y0 y1 => retF (y0, y1)) p1 p2 := by kernel_rfl

noncomputable def f81_N (k : Nat) (c58 : PV → PV → (Bool → R) → R) (ret0 : Bool → PV → R) (p1 : PV) (p2 : PV) : R :=
  f81_e c58 ret0 p1 p2
theorem f81_eq (k : Nat) (c58 : PV → PV → (Bool → R) → R) (retF : Bool × PV → R) (p1 : PV) (p2 : PV) : exec (f81_E k c58) f81_code (endK (f81_E k c58) Try.f81 [4000000] f81_un retF) ⟨[.val 30 p1, .ptr 4000000 [], .undef, .undef, .undef, .undef, .undef, .undef, .undef, .undef, .undef], [(4000000, .box 27 (.val 27 p2))]⟩ = f81_N k c58 (fun y0 y1 => retF (y0, y1)) p1 p2 :=
  (f81_e_mem k c58 retF p1 p2)

noncomputable def f91_msk : Nat → Option (List Nat) := fun key => bif key == 6 then some [0, 1, 7, 8] else none
noncomputable def f91_C (c81 : PV → PV → (Bool → PV → R) → R) : Oracle := orc 81 f81_D f81_O (fun x ret => c81 x.1 x.2 (fun y0 y1 => ret (y0, y1))) <| orc0
noncomputable def f91_E (k : Nat) (c81 : PV → PV → (Bool → PV → R) → R) : Env := { P := Try.prog, nilOwn := fun d => false, fldOwn := fun d i => false, ownPar := ownPars, ownRet := false, mask := f91_msk, fuel := k, C := f91_C c81 }
noncomputable def f91_code : Code := Try.f91.body.getD .skip
noncomputable def f91_cw1 : Code := subC f91_code [1, 0, 1, 0, 0]
noncomputable def f91_hw1_0 (p1 : PV) (n5 : Int) (p6 : PV) : St := ⟨[.val 28 p1, .fn 81 [.ptr 4001000 []], .dead, .dead, .dead, .dead, .dead, .int .i64 (List.length (PV.els p1) : Int), .int .i64 n5, .dead, .dead, .dead, .dead, .dead, .dead, .dead, .dead, .dead, .dead], [(4001000, .box 27 (.val 27 p6))]⟩
noncomputable def f91_w1A (k : Nat) (c81 : PV → PV → (Bool → PV → R) → R) (retF : Int × PV → R) (p1 : PV) (n5 : Int) (p6 : PV) : R := loopM (f91_E k c81) f91_cw1 (kont (f91_E k c81) f91_code [1, 0, 1, 0] (endK (f91_E k c81) Try.f91 [4001000] f91_un retF)) k (f91_hw1_0 p1 n5 p6)
noncomputable def f91_w1b0 (c81 : PV → PV → (Bool → PV → R) → R) (ret0 : Int → PV → R) (next_w1_0 : Int → PV → R) (p1 : PV) (n5 : Int) (p6 : PV) : R :=
  bif (decide (n5 < (List.length (PV.els p1) : Int))) then
    bif (true && decide ((0 : Int) ≤ n5) && decide (n5 < (List.length (PV.els p1) : Int))) then
      c81 (List.getD (PV.els p1) (n5).toNat PV.nil) p6 fun b7 p8 =>
      bif b7 then
        ret0 n5 p8
      else next_w1_0 (IntKind.wrap .i64 (n5 + (1 : Int))) p8
    else none
  else ret0 (-1) p6

theorem f91_w1b0_mem (k : Nat) (c81 : PV → PV → (Bool → PV → R) → R) (retF : Int × PV → R) (NX_w1 : St → R) (p1 : PV) (n5 : Int) (p6 : PV) : exec (f91_E k c81) f91_cw1 (purgeK (f91_E k c81) f91_cw1 (loopK NX_w1 (kont (f91_E k c81) f91_code [1, 0, 1, 0] (endK (f91_E k c81) Try.f91 [4001000] f91_un retF)))) (f91_hw1_0 p1 n5 p6) = f91_w1b0 c81 (fun y0 y1 => retF (y0, y1)) (fun n5 p6 => NX_w1 (f91_hw1_0 p1 n5 p6)) p1 n5 p6 := by kernel_rfl

noncomputable def f91_w1b0N (k : Nat) (c81 : PV → PV → (Bool → PV → R) → R) (ret0 : Int → PV → R) (next_w1_0 : Int → PV → R) (p1 : PV) (n5 : Int) (p6 : PV) : R :=
  f91_w1b0 c81 ret0 next_w1_0 p1 n5 p6
theorem f91_w1b0_eq (k : Nat) (c81 : PV → PV → (Bool → PV → R) → R) (retF : Int × PV → R) (NX_w1 : St → R) (p1 : PV) (n5 : Int) (p6 : PV) : exec (f91_E k c81) f91_cw1 (purgeK (f91_E k c81) f91_cw1 (loopK NX_w1 (kont (f91_E k c81) f91_code [1, 0, 1, 0] (endK (f91_E k c81) Try.f91 [4001000] f91_un retF)))) (f91_hw1_0 p1 n5 p6) = f91_w1b0N k c81 (fun y0 y1 => retF (y0, y1)) (fun n5 p6 => NX_w1 (f91_hw1_0 p1 n5 p6)) p1 n5 p6 :=
  (f91_w1b0_mem k c81 retF NX_w1 p1 n5 p6)

noncomputable def f91_w1B (k : Nat) (c81 : PV → PV → (Bool → PV → R) → R) (ret0 : Int → PV → R) (p1 : PV) (nx : Int × PV → R) : Int × PV → R := (fun s => f91_w1b0N k c81 ret0 (fun n5 p6 => nx (n5, p6)) p1 s.1 s.2)
noncomputable def f91_w1N (k : Nat) (c81 : PV → PV → (Bool → PV → R) → R) (ret0 : Int → PV → R) (p1 : PV) (n5 : Int) (p6 : PV) : R := loopR (f91_w1B k c81 ret0 p1) k (n5, p6)
theorem f91_w1_eq (k : Nat) (c81 : PV → PV → (Bool → PV → R) → R) (retF : Int × PV → R) (p1 : PV) (n5 : Int) (p6 : PV) : f91_w1A k c81 retF p1 n5 p6 = f91_w1N k c81 (fun y0 y1 => retF (y0, y1)) p1 n5 p6 :=
  Eq.mp (by kernel_rfl) (loop_sim (E := (f91_E k c81)) (c := f91_cw1) (K := (kont (f91_E k c81) f91_code [1, 0, 1, 0] (endK (f91_E k c81) Try.f91 [4001000] f91_un retF))) (S := Int × PV) (fun s => f91_hw1_0 p1 s.1 s.2) (f91_w1B k c81 (fun y0 y1 => retF (y0, y1)) p1) (fun NX s => by
    exact Eq.mp (by kernel_rfl) (f91_w1b0_eq k c81 retF NX p1 s.1 s.2)) k (n5, p6))

noncomputable def f91_e (c81 : PV → PV → (Bool → PV → R) → R) (ret0 : Int → PV → R) (w1 : Int → PV → R) (p1 : PV) (p2 : PV) : R :=
  w1 0 p2

theorem f91_e_mem (k : Nat) (c81 : PV → PV → (Bool → PV → R) → R) (retF : Int × PV → R) (p1 : PV) (p2 : PV) : exec (f91_E k c81) f91_code (endK (f91_E k c81) Try.f91 [4001000] f91_un retF) ⟨[.val 28 p1, .fn 81 [.ptr 4001000 []], .undef, .undef, .undef, .undef, .undef, .undef, .undef, .undef, .undef, .undef, .undef, .undef, .undef, .undef, .undef, .undef, .undef], [(4001000, .box 27 (.val 27 p2))]⟩ = f91_e c81 (fun y0 y1 => retF (y0, y1)) (fun n5 p6 => f91_w1A k c81 retF p1 n5 p6) p1 p2 := by kernel_rfl

noncomputable def f91_N (k : Nat) (c81 : PV → PV → (Bool → PV → R) → R) (ret0 : Int → PV → R) (p1 : PV) (p2 : PV) : R :=
  f91_e c81 ret0 (fun n5 p6 => f91_w1N k c81 ret0 p1 n5 p6) p1 p2
theorem f91_eq (k : Nat) (c81 : PV → PV → (Bool → PV → R) → R) (retF : Int × PV → R) (p1 : PV) (p2 : PV) : exec (f91_E k c81) f91_code (endK (f91_E k c81) Try.f91 [4001000] f91_un retF) ⟨[.val 28 p1, .fn 81 [.ptr 4001000 []], .undef, .undef, .undef, .undef, .undef, .undef, .undef, .undef, .undef, .undef, .undef, .undef, .undef, .undef, .undef, .undef, .undef], [(4001000, .box 27 (.val 27 p2))]⟩ = f91_N k c81 (fun y0 y1 => retF (y0, y1)) p1 p2 :=
  (f91_e_mem k c81 retF p1 p2).trans (by rw [show (fun n5 p6 => f91_w1A k c81 retF p1 n5 p6) = (fun n5 p6 => f91_w1N k c81 (fun y0 y1 => retF (y0, y1)) p1 n5 p6) from funext fun n5 => funext fun p6 => f91_w1_eq k c81 retF p1 n5 p6]; rfl)

noncomputable def f80_msk : Nat → Option (List Nat) := fun key =>  none
noncomputable def f80_C (c91 : PV → PV → (Int → PV → R) → R) : Oracle := orc 91 f91_D f91_O (fun x ret => c91 x.1 x.2 (fun y0 y1 => ret (y0, y1))) <| orc0
noncomputable def f80_E (k : Nat) (c91 : PV → PV → (Int → PV → R) → R) : Env := { P := Try.prog, nilOwn := fun d => false, fldOwn := fun d i => false, ownPar := ownPars, ownRet := false, mask := f80_msk, fuel := k, C := f80_C c91 }
noncomputable def f80_code : Code := Try.f80.body.getD .skip
noncomputable def f80_e (c91 : PV → PV → (Int → PV → R) → R) (ret0 : Bool → PV → R) (p1 : PV) (p2 : PV) : R :=
  c91 p1 p2 fun n3 p4 =>
  ret0 (decide ((0 : Int) ≤ n3)) p4

theorem f80_e_mem (k : Nat) (c91 : PV → PV → (Int → PV → R) → R) (retF : Bool × PV → R) (p1 : PV) (p2 : PV) : exec (f80_E k c91) f80_code (endK (f80_E k c91) Try.f80 [4001000] f80_un retF) ⟨[.val 28 p1, .fn 81 [.ptr 4001000 []], .undef, .undef, .undef, .undef, .undef, .undef, .undef], [(4001000, .box 27 (.val 27 p2))]⟩ = f80_e c91 (fun y0 y1 => retF (y0, y1)) p1 p2 := by kernel_rfl

noncomputable def f80_N (k : Nat) (c91 : PV → PV → (Int → PV → R) → R) (ret0 : Bool → PV → R) (p1 : PV) (p2 : PV) : R :=
  f80_e c91 ret0 p1 p2
theorem f80_eq (k : Nat) (c91 : PV → PV → (Int → PV → R) → R) (retF : Bool × PV → R) (p1 : PV) (p2 : PV) : exec (f80_E k c91) f80_code (endK (f80_E k c91) Try.f80 [4001000] f80_un retF) ⟨[.val 28 p1, .fn 81 [.ptr 4001000 []], .undef, .undef, .undef, .undef, .undef, .undef, .undef], [(4001000, .box 27 (.val 27 p2))]⟩ = f80_N k c91 (fun y0 y1 => retF (y0, y1)) p1 p2 :=
  (f80_e_mem k c91 retF p1 p2)

noncomputable def f58_msk : Nat → Option (List Nat) := fun key =>  none
noncomputable def f58_C (c58 : PV → PV → (Bool → R) → R) (c78 : PV → (Int → Int → R) → R) (c79 : PV → Int → (Bool → R) → R) (c80 : PV → PV → (Bool → PV → R) → R) : Oracle := orc 58 f58_D f58_O (fun x ret => c58 x.1 x.2 (fun y0 => ret y0)) <| orc 78 f78_D f78_O (fun x ret => c78 x (fun y0 y1 => ret (y0, y1))) <| orc 79 f79_D f79_O (fun x ret => c79 x.1 x.2 (fun y0 => ret y0)) <| orc 80 f80_D f80_O (fun x ret => c80 x.1 x.2 (fun y0 y1 => ret (y0, y1))) <| orc0
noncomputable def f58_E (k : Nat) (c58 : PV → PV → (Bool → R) → R) (c78 : PV → (Int → Int → R) → R) (c79 : PV → Int → (Bool → R) → R) (c80 : PV → PV → (Bool → PV → R) → R) : Env := { P := Try.prog, nilOwn := fun d => false, fldOwn := fun d i => false, ownPar := ownPars, ownRet := false, mask := f58_msk, fuel := k, C := f58_C c58 c78 c79 c80 }
noncomputable def f58_code : Code := Try.f58.body.getD .skip
noncomputable def f58_e (c58 : PV → PV → (Bool → R) → R) (c78 : PV → (Int → Int → R) → R) (c79 : PV → Int → (Bool → R) → R) (c80 : PV → PV → (Bool → PV → R) → R) (ret0 : Bool → R) (p1 : PV) (p2 : PV) : R :=
  bif (decide ((PV.num (PV.fld p1 0)) = (7 : Int))) then
    bif (true && decide ((0 : Int) ≤ (0 : Int)) && decide ((0 : Int) < (List.length (PV.els (PV.fld p1 3)) : Int))) then
      c58 (List.getD (PV.els (PV.fld p1 3)) ((0 : Int)).toNat PV.nil) p2 fun b3 =>
      ret0 b3
    else none
  else c78 p2 fun n4 n5 =>
  bif ((!(decide (n4 = (PV.num (PV.fld p1 0))))) == false) then
    bif ((decide (n4 = (0 : Int))) == false) then
      bif ((!(decide ((List.length (PV.els (PV.fld p2 2)) : Int) = n5))) == false) then
        bif ((!(decide (n4 = (2 : Int)))) == true) then
          bif (!(decide ((PV.num (PV.fld p2 1)) = (0 : Int)))) then
            ret0 false
          else bif (decide ((PV.num (PV.fld p2 0)) = (2 : Int))) then
            c79 (PV.fld p1 1) (PV.num (PV.fld p2 1)) fun b6 =>
            ret0 b6
          else bif (decide ((PV.num (PV.fld p2 0)) = (5 : Int))) then
            bif (true && decide ((0 : Int) ≤ (1 : Int)) && decide ((1 : Int) < (List.length (PV.els (PV.fld p1 3)) : Int))) then
              bif (true && decide ((0 : Int) ≤ (0 : Int)) && decide ((0 : Int) < (List.length (PV.els (PV.fld p2 2)) : Int))) then
                c58 (List.getD (PV.els (PV.fld p1 3)) ((1 : Int)).toNat PV.nil) (List.getD (PV.els (PV.fld p2 2)) ((0 : Int)).toNat PV.nil) fun b7 =>
                ret0 b7
              else none
            else none
          else bif (decide ((PV.num (PV.fld p2 0)) = (3 : Int))) then
            bif (true && decide ((0 : Int) ≤ (0 : Int)) && decide ((0 : Int) < (List.length (PV.els (PV.fld p1 3)) : Int))) then
              bif (true && decide ((0 : Int) ≤ (0 : Int)) && decide ((0 : Int) < (List.length (PV.els (PV.fld p2 2)) : Int))) then
                c58 (List.getD (PV.els (PV.fld p1 3)) ((0 : Int)).toNat PV.nil) (List.getD (PV.els (PV.fld p2 2)) ((0 : Int)).toNat PV.nil) fun b8 =>
                bif (b8 == true) then
                  bif (true && decide ((0 : Int) ≤ (1 : Int)) && decide ((1 : Int) < (List.length (PV.els (PV.fld p1 3)) : Int))) then
                    bif (true && decide ((0 : Int) ≤ (1 : Int)) && decide ((1 : Int) < (List.length (PV.els (PV.fld p2 2)) : Int))) then
                      c58 (List.getD (PV.els (PV.fld p1 3)) ((1 : Int)).toNat PV.nil) (List.getD (PV.els (PV.fld p2 2)) ((1 : Int)).toNat PV.nil) fun b9 =>
                      ret0 b9
                    else none
                  else none
                else ret0 false
              else none
            else none
          else c80 (PV.fld p2 2) p1 fun b10 p11 =>
          ret0 (!b10)
        else bif (decide ((PV.num (PV.fld p2 0)) = (2 : Int))) then
          c79 (PV.fld p1 1) (PV.num (PV.fld p2 1)) fun b12 =>
          ret0 b12
        else bif (decide ((PV.num (PV.fld p2 0)) = (5 : Int))) then
          bif (true && decide ((0 : Int) ≤ (1 : Int)) && decide ((1 : Int) < (List.length (PV.els (PV.fld p1 3)) : Int))) then
            bif (true && decide ((0 : Int) ≤ (0 : Int)) && decide ((0 : Int) < (List.length (PV.els (PV.fld p2 2)) : Int))) then
              c58 (List.getD (PV.els (PV.fld p1 3)) ((1 : Int)).toNat PV.nil) (List.getD (PV.els (PV.fld p2 2)) ((0 : Int)).toNat PV.nil) fun b13 =>
              ret0 b13
            else none
          else none
        else bif (decide ((PV.num (PV.fld p2 0)) = (3 : Int))) then
          bif (true && decide ((0 : Int) ≤ (0 : Int)) && decide ((0 : Int) < (List.length (PV.els (PV.fld p1 3)) : Int))) then
            bif (true && decide ((0 : Int) ≤ (0 : Int)) && decide ((0 : Int) < (List.length (PV.els (PV.fld p2 2)) : Int))) then
              c58 (List.getD (PV.els (PV.fld p1 3)) ((0 : Int)).toNat PV.nil) (List.getD (PV.els (PV.fld p2 2)) ((0 : Int)).toNat PV.nil) fun b14 =>
              bif (b14 == true) then
                bif (true && decide ((0 : Int) ≤ (1 : Int)) && decide ((1 : Int) < (List.length (PV.els (PV.fld p1 3)) : Int))) then
                  bif (true && decide ((0 : Int) ≤ (1 : Int)) && decide ((1 : Int) < (List.length (PV.els (PV.fld p2 2)) : Int))) then
                    c58 (List.getD (PV.els (PV.fld p1 3)) ((1 : Int)).toNat PV.nil) (List.getD (PV.els (PV.fld p2 2)) ((1 : Int)).toNat PV.nil) fun b15 =>
                    ret0 b15
                  else none
                else none
              else ret0 false
            else none
          else none
        else c80 (PV.fld p2 2) p1 fun b16 p17 =>
        ret0 (!b16)
      else ret0 false
    else ret0 false
  else ret0 false

theorem f58_e_mem (k : Nat) (c58 : PV → PV → (Bool → R) → R) (c78 : PV → (Int → Int → R) → R) (c79 : PV → Int → (Bool → R) → R) (c80 : PV → PV → (Bool → PV → R) → R) (retF : Bool → R) (p1 : PV) (p2 : PV) : exec (f58_E k c58 c78 c79 c80) f58_code (endK (f58_E k c58 c78 c79 c80) Try.f58 [] f58_un retF) ⟨[.val 27 p1, .val 30 p2, .undef, .undef, .undef, .undef, .undef, .undef, .undef, .undef, .undef, .undef, .undef, .undef, .undef, .undef, .undef, .undef, .undef, .undef, .undef, .undef, .undef, .undef, .undef, .undef, .undef, .undef, .undef, .undef, .undef, .undef, .undef, .undef, .undef, .undef, .undef, .undef, .undef, .undef, .undef, .undef, .undef, .undef, .undef, .undef, .undef, .undef, .undef, .undef, .undef, .undef, .undef, .undef, .undef, .undef, .undef, .undef, .undef, .undef, .undef, .undef, .undef, .undef, .undef, .undef, .undef, .undef, .undef, .undef, .undef, .undef, .undef, .undef, .undef, .undef, .undef, .undef, .undef, .undef, .undef, .undef, .undef, .undef, .undef, .undef, .undef, .undef, .undef, .undef, .undef, .undef], []⟩ = f58_e c58 c78 c79 c80 (fun y0 => retF y0) p1 p2 := by kernel_rfl

noncomputable def f58_N (k : Nat) (c58 : PV → PV → (Bool → R) → R) (c78 : PV → (Int → Int → R) → R) (c79 : PV → Int → (Bool → R) → R) (c80 : PV → PV → (Bool → PV → R) → R) (ret0 : Bool → R) (p1 : PV) (p2 : PV) : R :=
  f58_e c58 c78 c79 c80 ret0 p1 p2
theorem f58_eq (k : Nat) (c58 : PV → PV → (Bool → R) → R) (c78 : PV → (Int → Int → R) → R) (c79 : PV → Int → (Bool → R) → R) (c80 : PV → PV → (Bool → PV → R) → R) (retF : Bool → R) (p1 : PV) (p2 : PV) : exec (f58_E k c58 c78 c79 c80) f58_code (endK (f58_E k c58 c78 c79 c80) Try.f58 [] f58_un retF) ⟨[.val 27 p1, .val 30 p2, .undef, .undef, .undef, .undef, .undef, .undef, .undef, .undef, .undef, .undef, .undef, .undef, .undef, .undef, .undef, .undef, .undef, .undef, .undef, .undef, .undef, .undef, .undef, .undef, .undef, .undef, .undef, .undef, .undef, .undef, .undef, .undef, .undef, .undef, .undef, .undef, .undef, .undef, .undef, .undef, .undef, .undef, .undef, .undef, .undef, .undef, .undef, .undef, .undef, .undef, .undef, .undef, .undef, .undef, .undef, .undef, .undef, .undef, .undef, .undef, .undef, .undef, .undef, .undef, .undef, .undef, .undef, .undef, .undef, .undef, .undef, .undef, .undef, .undef, .undef, .undef, .undef, .undef, .undef, .undef, .undef, .undef, .undef, .undef, .undef, .undef, .undef, .undef, .undef, .undef], []⟩ = f58_N k c58 c78 c79 c80 (fun y0 => retF y0) p1 p2 :=
  (f58_e_mem k c58 c78 c79 c80 retF p1 p2)

mutual
noncomputable def G81 : Nat → PV → PV → (Bool → PV → R) → R
  | 0, _, _, _ => none
  | k + 1, p1, p2, ret0 => f81_N k (G58 k) ret0 p1 p2
noncomputable def G91 : Nat → PV → PV → (Int → PV → R) → R
  | 0, _, _, _ => none
  | k + 1, p1, p2, ret0 => f91_N k (G81 k) ret0 p1 p2
noncomputable def G80 : Nat → PV → PV → (Bool → PV → R) → R
  | 0, _, _, _ => none
  | k + 1, p1, p2, ret0 => f80_N k (G91 k) ret0 p1 p2
noncomputable def G58 : Nat → PV → PV → (Bool → R) → R
  | 0, _, _, _ => none
  | k + 1, p1, p2, ret0 => f58_N k (G58 k) (G78 k) (G79 k) (G80 k) ret0 p1 p2
end
mutual
theorem S81 : ∀ k, Snd Try.prog 81 f81_I f81_O (fun x ret => G81 k x.1 x.2 (fun y0 y1 => ret (y0, y1)))
  | 0 => snd_none
  | k + 1 => snd_step (E := f81_E k (G58 k)) rfl laidOut noNums (orc_ok (S58 k).o f58_D_ok orc0_ok) (f := 81) (fn := Try.f81) (code := f81_code) Try.func81 (by kernel_rfl) (drawsOk_of laidOut (orc_ok (S58 k).o f58_D_ok orc0_ok) mixed (by kernel_rfl)) f81_un f81_un_ok [4000000] (fun _ => rfl)
      (fun x ret => f81_eq k (G58 k) ret x.1 x.2)
theorem S91 : ∀ k, Snd Try.prog 91 f91_I f91_O (fun x ret => G91 k x.1 x.2 (fun y0 y1 => ret (y0, y1)))
  | 0 => snd_none
  | k + 1 => snd_step (E := f91_E k (G81 k)) rfl laidOut noNums (orc_ok (S81 k).o f81_D_ok orc0_ok) (f := 91) (fn := Try.f91) (code := f91_code) Try.func91 (by kernel_rfl) (drawsOk_of laidOut (orc_ok (S81 k).o f81_D_ok orc0_ok) mixed (by kernel_rfl)) f91_un f91_un_ok [4001000] (fun _ => rfl)
      (fun x ret => f91_eq k (G81 k) ret x.1 x.2)
theorem S80 : ∀ k, Snd Try.prog 80 f80_I f80_O (fun x ret => G80 k x.1 x.2 (fun y0 y1 => ret (y0, y1)))
  | 0 => snd_none
  | k + 1 => snd_step (E := f80_E k (G91 k)) rfl laidOut noNums (orc_ok (S91 k).o f91_D_ok orc0_ok) (f := 80) (fn := Try.f80) (code := f80_code) Try.func80 (by kernel_rfl) (drawsOk_of laidOut (orc_ok (S91 k).o f91_D_ok orc0_ok) mixed (by kernel_rfl)) f80_un f80_un_ok [4001000] (fun _ => rfl)
      (fun x ret => f80_eq k (G91 k) ret x.1 x.2)
theorem S58 : ∀ k, Snd Try.prog 58 f58_I f58_O (fun x ret => G58 k x.1 x.2 (fun y0 => ret y0))
  | 0 => snd_none
  | k + 1 => snd_step (E := f58_E k (G58 k) (G78 k) (G79 k) (G80 k)) rfl laidOut noNums (orc_ok (S58 k).o f58_D_ok (orc_ok (S78 k).o f78_D_ok (orc_ok (S79 k).o f79_D_ok (orc_ok (S80 k).o f80_D_ok orc0_ok)))) (f := 58) (fn := Try.f58) (code := f58_code) Try.func58 (by kernel_rfl) (drawsOk_of laidOut (orc_ok (S58 k).o f58_D_ok (orc_ok (S78 k).o f78_D_ok (orc_ok (S79 k).o f79_D_ok (orc_ok (S80 k).o f80_D_ok orc0_ok)))) mixed (by kernel_rfl)) f58_un f58_un_ok [] (fun _ => rfl)
      (fun x ret => f58_eq k (G58 k) (G78 k) (G79 k) (G80 k) ret x.1 x.2)
end

/- catchpole/value.Good -/
noncomputable def f18_I : PV × PV → List SV × Obs := fun x => ([.val 27 x.1, .val 30 x.2], [])
noncomputable def f18_D : List SV → Obs → Option (PV × PV)
  | [.val 27 p1, .val 30 p2], [] => some (p1, p2)
  | _, _ => none
theorem f18_D_ok (args : List SV) (B : Obs) (x : PV × PV) (h : f18_D args B = some x) : f18_I x = (args, B) := by
  unfold f18_D at h
  split at h
  · injection h with h; subst h; rfl
  · cases h
noncomputable def f18_O : Bool → Out := (fun y => ([.bool y], []))
noncomputable def f18_un : Out → Option (Bool)
  | ([.bool y0], []) => some y0
  | _ => none
theorem f18_un_ok (o : Out) (y : Bool) (h : f18_un o = some y) : o = f18_O y := by
  unfold f18_un at h
  split at h
  · injection h with h; subst h; rfl
  · cases h
noncomputable def f18_msk : Nat → Option (List Nat) := fun key =>  none
noncomputable def f18_C (c16 : PV → (Bool → R) → R) (c58 : PV → PV → (Bool → R) → R) : Oracle := orc 16 f16_D f16_O (fun x ret => c16 x (fun y0 => ret y0)) <| orc 58 f58_D f58_O (fun x ret => c58 x.1 x.2 (fun y0 => ret y0)) <| orc0
noncomputable def f18_E (k : Nat) (c16 : PV → (Bool → R) → R) (c58 : PV → PV → (Bool → R) → R) : Env := { P := Try.prog, nilOwn := fun d => false, fldOwn := fun d i => false, ownPar := ownPars, ownRet := false, mask := f18_msk, fuel := k, C := f18_C c16 c58 }
noncomputable def f18_code : Code := Try.f18.body.getD .skip
noncomputable def f18_e (c16 : PV → (Bool → R) → R) (c58 : PV → PV → (Bool → R) → R) (ret0 : Bool → R) (p1 : PV) (p2 : PV) : R :=
  c16 p1 fun b3 =>
  bif (b3 == true) then
    c58 p1 p2 fun b4 =>
    ret0 b4
  else ret0 false

theorem f18_e_mem (k : Nat) (c16 : PV → (Bool → R) → R) (c58 : PV → PV → (Bool → R) → R) (retF : Bool → R) (p1 : PV) (p2 : PV) : exec (f18_E k c16 c58) f18_code (endK (f18_E k c16 c58) Try.f18 [] f18_un retF) ⟨[.val 27 p1, .val 30 p2, .undef, .undef, .undef, .undef, .undef, .undef, .undef, .undef, .undef, .undef], []⟩ = f18_e c16 c58 (fun y0 => retF y0) p1 p2 := by kernel_rfl

noncomputable def f18_N (k : Nat) (c16 : PV → (Bool → R) → R) (c58 : PV → PV → (Bool → R) → R) (ret0 : Bool → R) (p1 : PV) (p2 : PV) : R :=
  f18_e c16 c58 ret0 p1 p2
theorem f18_eq (k : Nat) (c16 : PV → (Bool → R) → R) (c58 : PV → PV → (Bool → R) → R) (retF : Bool → R) (p1 : PV) (p2 : PV) : exec (f18_E k c16 c58) f18_code (endK (f18_E k c16 c58) Try.f18 [] f18_un retF) ⟨[.val 27 p1, .val 30 p2, .undef, .undef, .undef, .undef, .undef, .undef, .undef, .undef, .undef, .undef], []⟩ = f18_N k c16 c58 (fun y0 => retF y0) p1 p2 :=
  (f18_e_mem k c16 c58 retF p1 p2)

noncomputable def G18 : Nat → PV → PV → (Bool → R) → R
  | 0, _, _, _ => none
  | k + 1, p1, p2, ret0 => f18_N k (G16 k) (G58 k) ret0 p1 p2
theorem S18 : ∀ k, Snd Try.prog 18 f18_I f18_O (fun x ret => G18 k x.1 x.2 (fun y0 => ret y0))
  | 0 => snd_none
  | k + 1 => snd_step (E := f18_E k (G16 k) (G58 k)) rfl laidOut noNums (orc_ok (S16 k).o f16_D_ok (orc_ok (S58 k).o f58_D_ok orc0_ok)) (f := 18) (fn := Try.f18) (code := f18_code) Try.func18 (by kernel_rfl) (drawsOk_of laidOut (orc_ok (S16 k).o f16_D_ok (orc_ok (S58 k).o f58_D_ok orc0_ok)) mixed (by kernel_rfl)) f18_un f18_un_ok [] (fun _ => rfl)
      (fun x ret => f18_eq k (G16 k) (G58 k) ret x.1 x.2)

/- catchpole/value.full -/
noncomputable def f65_I : PV → List SV × Obs := fun x => ([.val 30 x], [])
noncomputable def f65_D : List SV → Obs → Option (PV)
  | [.val 30 p1], [] => some p1
  | _, _ => none
theorem f65_D_ok (args : List SV) (B : Obs) (x : PV) (h : f65_D args B = some x) : f65_I x = (args, B) := by
  unfold f65_D at h
  split at h
  · injection h with h; subst h; rfl
  · cases h
noncomputable def f65_O : Bool → Out := (fun y => ([.bool y], []))
noncomputable def f65_un : Out → Option (Bool)
  | ([.bool y0], []) => some y0
  | _ => none
theorem f65_un_ok (o : Out) (y : Bool) (h : f65_un o = some y) : o = f65_O y := by
  unfold f65_un at h
  split at h
  · injection h with h; subst h; rfl
  · cases h
noncomputable def f65_msk : Nat → Option (List Nat) := fun key => bif key == 6 then some [1, 6, 7, 8] else none
noncomputable def f65_C (c23 : PV → (Int → R) → R) (c65 : PV → (Bool → R) → R) : Oracle := orc 23 f23_D f23_O (fun x ret => c23 x (fun y0 => ret y0)) <| orc 65 f65_D f65_O (fun x ret => c65 x (fun y0 => ret y0)) <| orc0
noncomputable def f65_E (k : Nat) (c23 : PV → (Int → R) → R) (c65 : PV → (Bool → R) → R) : Env := { P := Try.prog, nilOwn := fun d => false, fldOwn := fun d i => false, ownPar := ownPars, ownRet := false, mask := f65_msk, fuel := k, C := f65_C c23 c65 }
noncomputable def f65_code : Code := Try.f65.body.getD .skip
noncomputable def f65_cw1 : Code := subC f65_code [1, 0, 1, 0, 0]
noncomputable def f65_hw1_0 (p1 : PV) (n5 : Int) : St := ⟨[.dead, .ptr 1 [], .dead, .dead, .dead, .dead, .val 28 (PV.fld p1 2), .int .i64 (List.length (PV.els (PV.fld p1 2)) : Int), .int .i64 n5, .dead, .dead, .dead, .dead, .dead, .dead, .dead, .dead, .dead, .dead, .dead, .dead, .dead, .dead, .dead, .dead, .dead], [(1, .box 30 (.val 30 p1))]⟩
noncomputable def f65_w1A (k : Nat) (c23 : PV → (Int → R) → R) (c65 : PV → (Bool → R) → R) (retF : Bool → R) (p1 : PV) (n5 : Int) : R := loopM (f65_E k c23 c65) f65_cw1 (kont (f65_E k c23 c65) f65_code [1, 0, 1, 0] (endK (f65_E k c23 c65) Try.f65 [] f65_un retF)) k (f65_hw1_0 p1 n5)
noncomputable def f65_w1b0 (c23 : PV → (Int → R) → R) (c65 : PV → (Bool → R) → R) (ret0 : Bool → R) (next_w1_0 : Int → R) (p1 : PV) (n5 : Int) : R :=
  bif (decide (n5 < (List.length (PV.els (PV.fld p1 2)) : Int))) then
    bif (true && decide ((0 : Int) ≤ n5) && decide (n5 < (List.length (PV.els (PV.fld p1 2)) : Int))) then
      bif ((decide ((PV.num (PV.fld p1 0)) = (6 : Int))) == true) then
        c23 (List.getD (PV.els (PV.fld p1 2)) (n5).toNat PV.nil) fun n6 =>
        bif ((decide (n6 = (0 : Int))) == false) then
          c65 (List.getD (PV.els (PV.fld p1 2)) (n5).toNat PV.nil) fun b7 =>
          bif (!b7) then
            ret0 false
          else next_w1_0 (IntKind.wrap .i64 (n5 + (1 : Int)))
        else ret0 false
      else c65 (List.getD (PV.els (PV.fld p1 2)) (n5).toNat PV.nil) fun b8 =>
      bif (!b8) then
        ret0 false
      else next_w1_0 (IntKind.wrap .i64 (n5 + (1 : Int)))
    else none
  else ret0 true

theorem f65_w1b0_mem (k : Nat) (c23 : PV → (Int → R) → R) (c65 : PV → (Bool → R) → R) (retF : Bool → R) (NX_w1 : St → R) (p1 : PV) (n5 : Int) : exec (f65_E k c23 c65) f65_cw1 (purgeK (f65_E k c23 c65) f65_cw1 (loopK NX_w1 (kont (f65_E k c23 c65) f65_code [1, 0, 1, 0] (endK (f65_E k c23 c65) Try.f65 [] f65_un retF)))) (f65_hw1_0 p1 n5) = f65_w1b0 c23 c65 (fun y0 => retF y0) (fun n5 => NX_w1 (f65_hw1_0 p1 n5)) p1 n5 := by kernel_rfl

noncomputable def f65_w1b0N (k : Nat) (c23 : PV → (Int → R) → R) (c65 : PV → (Bool → R) → R) (ret0 : Bool → R) (next_w1_0 : Int → R) (p1 : PV) (n5 : Int) : R :=
  f65_w1b0 c23 c65 ret0 next_w1_0 p1 n5
theorem f65_w1b0_eq (k : Nat) (c23 : PV → (Int → R) → R) (c65 : PV → (Bool → R) → R) (retF : Bool → R) (NX_w1 : St → R) (p1 : PV) (n5 : Int) : exec (f65_E k c23 c65) f65_cw1 (purgeK (f65_E k c23 c65) f65_cw1 (loopK NX_w1 (kont (f65_E k c23 c65) f65_code [1, 0, 1, 0] (endK (f65_E k c23 c65) Try.f65 [] f65_un retF)))) (f65_hw1_0 p1 n5) = f65_w1b0N k c23 c65 (fun y0 => retF y0) (fun n5 => NX_w1 (f65_hw1_0 p1 n5)) p1 n5 :=
  (f65_w1b0_mem k c23 c65 retF NX_w1 p1 n5)

noncomputable def f65_w1B (k : Nat) (c23 : PV → (Int → R) → R) (c65 : PV → (Bool → R) → R) (ret0 : Bool → R) (p1 : PV) (nx : Int → R) : Int → R := (fun s => f65_w1b0N k c23 c65 ret0 (fun n5 => nx n5) p1 s)
noncomputable def f65_w1N (k : Nat) (c23 : PV → (Int → R) → R) (c65 : PV → (Bool → R) → R) (ret0 : Bool → R) (p1 : PV) (n5 : Int) : R := loopR (f65_w1B k c23 c65 ret0 p1) k n5
theorem f65_w1_eq (k : Nat) (c23 : PV → (Int → R) → R) (c65 : PV → (Bool → R) → R) (retF : Bool → R) (p1 : PV) (n5 : Int) : f65_w1A k c23 c65 retF p1 n5 = f65_w1N k c23 c65 (fun y0 => retF y0) p1 n5 :=
  Eq.mp (by kernel_rfl) (loop_sim (E := (f65_E k c23 c65)) (c := f65_cw1) (K := (kont (f65_E k c23 c65) f65_code [1, 0, 1, 0] (endK (f65_E k c23 c65) Try.f65 [] f65_un retF))) (S := Int) (fun s => f65_hw1_0 p1 s) (f65_w1B k c23 c65 (fun y0 => retF y0) p1) (fun NX s => by
    exact Eq.mp (by kernel_rfl) (f65_w1b0_eq k c23 c65 retF NX p1 s)) k n5)

noncomputable def f65_e (c23 : PV → (Int → R) → R) (c65 : PV → (Bool → R) → R) (ret0 : Bool → R) (w1 : Int → R) (p1 : PV) : R :=
  w1 0

theorem f65_e_mem (k : Nat) (c23 : PV → (Int → R) → R) (c65 : PV → (Bool → R) → R) (retF : Bool → R) (p1 : PV) : exec (f65_E k c23 c65) f65_code (endK (f65_E k c23 c65) Try.f65 [] f65_un retF) ⟨[.val 30 p1, .undef, .undef, .undef, .undef, .undef, .undef, .undef, .undef, .undef, .undef, .undef, .undef, .undef, .undef, .undef, .undef, .undef, .undef, .undef, .undef, .undef, .undef, .undef, .undef, .undef], []⟩ = f65_e c23 c65 (fun y0 => retF y0) (fun n5 => f65_w1A k c23 c65 retF p1 n5) p1 := by kernel_rfl

noncomputable def f65_N (k : Nat) (c23 : PV → (Int → R) → R) (c65 : PV → (Bool → R) → R) (ret0 : Bool → R) (p1 : PV) : R :=
  f65_e c23 c65 ret0 (fun n5 => f65_w1N k c23 c65 ret0 p1 n5) p1
theorem f65_eq (k : Nat) (c23 : PV → (Int → R) → R) (c65 : PV → (Bool → R) → R) (retF : Bool → R) (p1 : PV) : exec (f65_E k c23 c65) f65_code (endK (f65_E k c23 c65) Try.f65 [] f65_un retF) ⟨[.val 30 p1, .undef, .undef, .undef, .undef, .undef, .undef, .undef, .undef, .undef, .undef, .undef, .undef, .undef, .undef, .undef, .undef, .undef, .undef, .undef, .undef, .undef, .undef, .undef, .undef, .undef], []⟩ = f65_N k c23 c65 (fun y0 => retF y0) p1 :=
  (f65_e_mem k c23 c65 retF p1).trans (by rw [show (fun n5 => f65_w1A k c23 c65 retF p1 n5) = (fun n5 => f65_w1N k c23 c65 (fun y0 => retF y0) p1 n5) from funext fun n5 => f65_w1_eq k c23 c65 retF p1 n5]; rfl)

noncomputable def G65 : Nat → PV → (Bool → R) → R
  | 0, _, _ => none
  | k + 1, p1, ret0 => f65_N k (G23 k) (G65 k) ret0 p1
theorem S65 : ∀ k, Snd Try.prog 65 f65_I f65_O (fun x ret => G65 k x (fun y0 => ret y0))
  | 0 => snd_none
  | k + 1 => snd_step (E := f65_E k (G23 k) (G65 k)) rfl laidOut noNums (orc_ok (S23 k).o f23_D_ok (orc_ok (S65 k).o f65_D_ok orc0_ok)) (f := 65) (fn := Try.f65) (code := f65_code) Try.func65 (by kernel_rfl) (drawsOk_of laidOut (orc_ok (S23 k).o f23_D_ok (orc_ok (S65 k).o f65_D_ok orc0_ok)) mixed (by kernel_rfl)) f65_un f65_un_ok [] (fun _ => rfl)
      (fun x ret => f65_eq k (G23 k) (G65 k) ret x)

/- catchpole/value.Full -/
noncomputable def f31_I : PV × PV → List SV × Obs := fun x => ([.val 27 x.1, .val 30 x.2], [])
noncomputable def f31_D : List SV → Obs → Option (PV × PV)
  | [.val 27 p1, .val 30 p2], [] => some (p1, p2)
  | _, _ => none
theorem f31_D_ok (args : List SV) (B : Obs) (x : PV × PV) (h : f31_D args B = some x) : f31_I x = (args, B) := by
  unfold f31_D at h
  split at h
  · injection h with h; subst h; rfl
  · cases h
noncomputable def f31_O : Bool → Out := (fun y => ([.bool y], []))
noncomputable def f31_un : Out → Option (Bool)
  | ([.bool y0], []) => some y0
  | _ => none
theorem f31_un_ok (o : Out) (y : Bool) (h : f31_un o = some y) : o = f31_O y := by
  unfold f31_un at h
  split at h
  · injection h with h; subst h; rfl
  · cases h
noncomputable def f31_msk : Nat → Option (List Nat) := fun key =>  none
noncomputable def f31_C (c18 : PV → PV → (Bool → R) → R) (c65 : PV → (Bool → R) → R) : Oracle := orc 18 f18_D f18_O (fun x ret => c18 x.1 x.2 (fun y0 => ret y0)) <| orc 65 f65_D f65_O (fun x ret => c65 x (fun y0 => ret y0)) <| orc0
noncomputable def f31_E (k : Nat) (c18 : PV → PV → (Bool → R) → R) (c65 : PV → (Bool → R) → R) : Env := { P := Try.prog, nilOwn := fun d => false, fldOwn := fun d i => false, ownPar := ownPars, ownRet := false, mask := f31_msk, fuel := k, C := f31_C c18 c65 }
noncomputable def f31_code : Code := Try.f31.body.getD .skip
noncomputable def f31_e (c18 : PV → PV → (Bool → R) → R) (c65 : PV → (Bool → R) → R) (ret0 : Bool → R) (p1 : PV) (p2 : PV) : R :=
  c18 p1 p2 fun b3 =>
  bif (b3 == true) then
    c65 p2 fun b4 =>
    ret0 b4
  else ret0 false

theorem f31_e_mem (k : Nat) (c18 : PV → PV → (Bool → R) → R) (c65 : PV → (Bool → R) → R) (retF : Bool → R) (p1 : PV) (p2 : PV) : exec (f31_E k c18 c65) f31_code (endK (f31_E k c18 c65) Try.f31 [] f31_un retF) ⟨[.val 27 p1, .val 30 p2, .undef, .undef, .undef, .undef, .undef, .undef, .undef, .undef, .undef, .undef], []⟩ = f31_e c18 c65 (fun y0 => retF y0) p1 p2 := by kernel_rfl

noncomputable def f31_N (k : Nat) (c18 : PV → PV → (Bool → R) → R) (c65 : PV → (Bool → R) → R) (ret0 : Bool → R) (p1 : PV) (p2 : PV) : R :=
  f31_e c18 c65 ret0 p1 p2
theorem f31_eq (k : Nat) (c18 : PV → PV → (Bool → R) → R) (c65 : PV → (Bool → R) → R) (retF : Bool → R) (p1 : PV) (p2 : PV) : exec (f31_E k c18 c65) f31_code (endK (f31_E k c18 c65) Try.f31 [] f31_un retF) ⟨[.val 27 p1, .val 30 p2, .undef, .undef, .undef, .undef, .undef, .undef, .undef, .undef, .undef, .undef], []⟩ = f31_N k c18 c65 (fun y0 => retF y0) p1 p2 :=
  (f31_e_mem k c18 c65 retF p1 p2)

noncomputable def G31 : Nat → PV → PV → (Bool → R) → R
  | 0, _, _, _ => none
  | k + 1, p1, p2, ret0 => f31_N k (G18 k) (G65 k) ret0 p1 p2
theorem S31 : ∀ k, Snd Try.prog 31 f31_I f31_O (fun x ret => G31 k x.1 x.2 (fun y0 => ret y0))
  | 0 => snd_none
  | k + 1 => snd_step (E := f31_E k (G18 k) (G65 k)) rfl laidOut noNums (orc_ok (S18 k).o f18_D_ok (orc_ok (S65 k).o f65_D_ok orc0_ok)) (f := 31) (fn := Try.f31) (code := f31_code) Try.func31 (by kernel_rfl) (drawsOk_of laidOut (orc_ok (S18 k).o f18_D_ok (orc_ok (S65 k).o f65_D_ok orc0_ok)) mixed (by kernel_rfl)) f31_un f31_un_ok [] (fun _ => rfl)
      (fun x ret => f31_eq k (G18 k) (G65 k) ret x.1 x.2)

/- catchpole/catchpolelaw11.BitsBack -/
noncomputable def f11_I : PV × PV × (List Int) × PV → List SV × Obs := fun x => ([.val 27 x.1, .val 30 x.2.1, .str x.2.2.1, .val 43 x.2.2.2], [])
noncomputable def f11_D : List SV → Obs → Option (PV × PV × (List Int) × PV)
  | [.val 27 p1, .val 30 p2, .str s3, .val 43 p4], [] => some (p1, p2, s3, p4)
  | _, _ => none
theorem f11_D_ok (args : List SV) (B : Obs) (x : PV × PV × (List Int) × PV) (h : f11_D args B = some x) : f11_I x = (args, B) := by
  unfold f11_D at h
  split at h
  · injection h with h; subst h; rfl
  · cases h
noncomputable def f11_O : Bool → Out := (fun y => ([.bool y], []))
noncomputable def f11_un : Out → Option (Bool)
  | ([.bool y0], []) => some y0
  | _ => none
theorem f11_un_ok (o : Out) (y : Bool) (h : f11_un o = some y) : o = f11_O y := by
  unfold f11_un at h
  split at h
  · injection h with h; subst h; rfl
  · cases h
noncomputable def f11_msk : Nat → Option (List Nat) := fun key =>  none
noncomputable def f11_C (c23 : PV → (Int → R) → R) (c26 : PV → PV → (Bool → R) → R) (c27 : PV → (PV → R) → R) (c31 : PV → PV → (Bool → R) → R) (c40 : (Bool → R) → R) (c41 : PV → Int → (Bool → R) → R) (c42 : PV → Int → (Bool → R) → R) (c43 : PV → (List Int) → PV → (PV → Int → R) → R) (c46 : PV → ((List Int) → R) → R) : Oracle := orc 23 f23_D f23_O (fun x ret => c23 x (fun y0 => ret y0)) <| orc 26 f26_D f26_O (fun x ret => c26 x.1 x.2 (fun y0 => ret y0)) <| orc 27 f27_D f27_O (fun x ret => c27 x (fun y0 => ret y0)) <| orc 31 f31_D f31_O (fun x ret => c31 x.1 x.2 (fun y0 => ret y0)) <| orc 40 f40_D f40_O (fun x ret => c40 (fun y0 => ret y0)) <| orc 41 f41_D f41_O (fun x ret => c41 x.1 x.2 (fun y0 => ret y0)) <| orc 42 f42_D f42_O (fun x ret => c42 x.1 x.2 (fun y0 => ret y0)) <| orc 43 f43_D f43_O (fun x ret => c43 x.1 x.2.1 x.2.2 (fun y0 y1 => ret (y0, y1))) <| orc 46 f46_D f46_O (fun x ret => c46 x (fun y0 => ret y0)) <| orc0
noncomputable def f11_E (k : Nat) (c23 : PV → (Int → R) → R) (c26 : PV → PV → (Bool → R) → R) (c27 : PV → (PV → R) → R) (c31 : PV → PV → (Bool → R) → R) (c40 : (Bool → R) → R) (c41 : PV → Int → (Bool → R) → R) (c42 : PV → Int → (Bool → R) → R) (c43 : PV → (List Int) → PV → (PV → Int → R) → R) (c46 : PV → ((List Int) → R) → R) : Env := { P := Try.prog, nilOwn := fun d => false, fldOwn := fun d i => false, ownPar := ownPars, ownRet := false, mask := f11_msk, fuel := k, C := f11_C c23 c26 c27 c31 c40 c41 c42 c43 c46 }
noncomputable def f11_code : Code := Try.f11.body.getD .skip
noncomputable def f11_e (c23 : PV → (Int → R) → R) (c26 : PV → PV → (Bool → R) → R) (c27 : PV → (PV → R) → R) (c31 : PV → PV → (Bool → R) → R) (c40 : (Bool → R) → R) (c41 : PV → Int → (Bool → R) → R) (c42 : PV → Int → (Bool → R) → R) (c43 : PV → (List Int) → PV → (PV → Int → R) → R) (c46 : PV → ((List Int) → R) → R) (ret0 : Bool → R) (p1 : PV) (p2 : PV) (s3 : List Int) (p4 : PV) : R :=
  c40 fun b5 =>
  bif (!b5) then
    ret0 false
  else c41 p1 100 fun b6 =>
  bif (b6 == false) then
    c42 p2 40 fun b7 =>
    bif (b7 == false) then
      c23 p2 fun n8 =>
      bif ((decide ((200 : Int) < n8)) == false) then
        bif ((decide ((200 : Int) < (List.length s3 : Int))) == false) then
          bif (decide ((100 : Int) < (List.length (PV.els p4) : Int))) then
            ret0 true
          else c31 p1 p2 fun b9 =>
          bif b9 then
            c46 p2 fun s10 =>
            c27 p2 fun p11 =>
            c43 p1 s10 p11 fun p12 n13 =>
            bif ((!(decide (n13 = (0 : Int)))) == false) then
              c26 p12 p2 fun b14 =>
              bif (!b14) then
                ret0 false
              else c43 p1 s3 p4 fun p15 n16 =>
              bif ((!(decide (n16 = (0 : Int)))) == false) then
                c31 p1 p15 fun b17 =>
                bif (b17 == true) then
                  c46 p15 fun s18 =>
                  bif ((decide ((s18 : List Int) = s3)) == true) then
                    c27 p15 fun p19 =>
                    ret0 (decide (((List.map PV.num (PV.els p19)) : List Int) = (List.map PV.num (PV.els p4))))
                  else ret0 false
                else ret0 false
              else ret0 true
            else ret0 false
          else c43 p1 s3 p4 fun p20 n21 =>
          bif ((!(decide (n21 = (0 : Int)))) == false) then
            c31 p1 p20 fun b22 =>
            bif (b22 == true) then
              c46 p20 fun s23 =>
              bif ((decide ((s23 : List Int) = s3)) == true) then
                c27 p20 fun p24 =>
                ret0 (decide (((List.map PV.num (PV.els p24)) : List Int) = (List.map PV.num (PV.els p4))))
              else ret0 false
            else ret0 false
          else ret0 true
        else ret0 true
      else ret0 true
    else ret0 true
  else ret0 true

theorem f11_e_mem (k : Nat) (c23 : PV → (Int → R) → R) (c26 : PV → PV → (Bool → R) → R) (c27 : PV → (PV → R) → R) (c31 : PV → PV → (Bool → R) → R) (c40 : (Bool → R) → R) (c41 : PV → Int → (Bool → R) → R) (c42 : PV → Int → (Bool → R) → R) (c43 : PV → (List Int) → PV → (PV → Int → R) → R) (c46 : PV → ((List Int) → R) → R) (retF : Bool → R) (p1 : PV) (p2 : PV) (s3 : List Int) (p4 : PV) : exec (f11_E k c23 c26 c27 c31 c40 c41 c42 c43 c46) f11_code (endK (f11_E k c23 c26 c27 c31 c40 c41 c42 c43 c46) Try.f11 [] f11_un retF) ⟨[.val 27 p1, .val 30 p2, .str s3, .val 43 p4, .undef, .undef, .undef, .undef, .undef, .undef, .undef, .undef, .undef, .undef, .undef, .undef, .undef, .undef, .undef, .undef, .undef, .undef, .undef, .undef, .undef, .undef, .undef, .undef, .undef, .undef, .undef, .undef, .undef, .undef, .undef, .undef, .undef, .undef, .undef, .undef, .undef, .undef, .undef, .undef, .undef, .undef, .undef, .undef, .undef, .undef, .undef, .undef, .undef, .undef, .undef, .undef, .undef, .undef, .undef, .undef, .undef, .undef, .undef, .undef, .undef, .undef, .undef, .undef, .undef, .undef, .undef, .undef, .undef, .undef, .undef, .undef, .undef, .undef, .undef, .undef, .undef, .undef, .undef, .undef], []⟩ = f11_e c23 c26 c27 c31 c40 c41 c42 c43 c46 (fun y0 => retF y0) p1 p2 s3 p4 := by kernel_rfl

noncomputable def f11_N (k : Nat) (c23 : PV → (Int → R) → R) (c26 : PV → PV → (Bool → R) → R) (c27 : PV → (PV → R) → R) (c31 : PV → PV → (Bool → R) → R) (c40 : (Bool → R) → R) (c41 : PV → Int → (Bool → R) → R) (c42 : PV → Int → (Bool → R) → R) (c43 : PV → (List Int) → PV → (PV → Int → R) → R) (c46 : PV → ((List Int) → R) → R) (ret0 : Bool → R) (p1 : PV) (p2 : PV) (s3 : List Int) (p4 : PV) : R :=
  f11_e c23 c26 c27 c31 c40 c41 c42 c43 c46 ret0 p1 p2 s3 p4
theorem f11_eq (k : Nat) (c23 : PV → (Int → R) → R) (c26 : PV → PV → (Bool → R) → R) (c27 : PV → (PV → R) → R) (c31 : PV → PV → (Bool → R) → R) (c40 : (Bool → R) → R) (c41 : PV → Int → (Bool → R) → R) (c42 : PV → Int → (Bool → R) → R) (c43 : PV → (List Int) → PV → (PV → Int → R) → R) (c46 : PV → ((List Int) → R) → R) (retF : Bool → R) (p1 : PV) (p2 : PV) (s3 : List Int) (p4 : PV) : exec (f11_E k c23 c26 c27 c31 c40 c41 c42 c43 c46) f11_code (endK (f11_E k c23 c26 c27 c31 c40 c41 c42 c43 c46) Try.f11 [] f11_un retF) ⟨[.val 27 p1, .val 30 p2, .str s3, .val 43 p4, .undef, .undef, .undef, .undef, .undef, .undef, .undef, .undef, .undef, .undef, .undef, .undef, .undef, .undef, .undef, .undef, .undef, .undef, .undef, .undef, .undef, .undef, .undef, .undef, .undef, .undef, .undef, .undef, .undef, .undef, .undef, .undef, .undef, .undef, .undef, .undef, .undef, .undef, .undef, .undef, .undef, .undef, .undef, .undef, .undef, .undef, .undef, .undef, .undef, .undef, .undef, .undef, .undef, .undef, .undef, .undef, .undef, .undef, .undef, .undef, .undef, .undef, .undef, .undef, .undef, .undef, .undef, .undef, .undef, .undef, .undef, .undef, .undef, .undef, .undef, .undef, .undef, .undef, .undef, .undef], []⟩ = f11_N k c23 c26 c27 c31 c40 c41 c42 c43 c46 (fun y0 => retF y0) p1 p2 s3 p4 :=
  (f11_e_mem k c23 c26 c27 c31 c40 c41 c42 c43 c46 retF p1 p2 s3 p4)

noncomputable def G11 : Nat → PV → PV → (List Int) → PV → (Bool → R) → R
  | 0, _, _, _, _, _ => none
  | k + 1, p1, p2, s3, p4, ret0 => f11_N k (G23 k) (G26 k) (G27 k) (G31 k) (G40 k) (G41 k) (G42 k) (G43 k) (G46 k) ret0 p1 p2 s3 p4
theorem S11 : ∀ k, Snd Try.prog 11 f11_I f11_O (fun x ret => G11 k x.1 x.2.1 x.2.2.1 x.2.2.2 (fun y0 => ret y0))
  | 0 => snd_none
  | k + 1 => snd_step (E := f11_E k (G23 k) (G26 k) (G27 k) (G31 k) (G40 k) (G41 k) (G42 k) (G43 k) (G46 k)) rfl laidOut noNums (orc_ok (S23 k).o f23_D_ok (orc_ok (S26 k).o f26_D_ok (orc_ok (S27 k).o f27_D_ok (orc_ok (S31 k).o f31_D_ok (orc_ok (S40 k).o f40_D_ok (orc_ok (S41 k).o f41_D_ok (orc_ok (S42 k).o f42_D_ok (orc_ok (S43 k).o f43_D_ok (orc_ok (S46 k).o f46_D_ok orc0_ok))))))))) (f := 11) (fn := Try.f11) (code := f11_code) Try.func11 (by kernel_rfl) (drawsOk_of laidOut (orc_ok (S23 k).o f23_D_ok (orc_ok (S26 k).o f26_D_ok (orc_ok (S27 k).o f27_D_ok (orc_ok (S31 k).o f31_D_ok (orc_ok (S40 k).o f40_D_ok (orc_ok (S41 k).o f41_D_ok (orc_ok (S42 k).o f42_D_ok (orc_ok (S43 k).o f43_D_ok (orc_ok (S46 k).o f46_D_ok orc0_ok))))))))) mixed (by kernel_rfl)) f11_un f11_un_ok [] (fun _ => rfl)
      (fun x ret => f11_eq k (G23 k) (G26 k) (G27 k) (G31 k) (G40 k) (G41 k) (G42 k) (G43 k) (G46 k) ret x.1 x.2.1 x.2.2.1 x.2.2.2)

/- catchpole/catchpolelaw11.BitsFull -/
noncomputable def f9_I : PV × (List Int) × PV × Int → List SV × Obs := fun x => ([.val 27 x.1, .str x.2.1, .val 43 x.2.2.1, .int .i64 x.2.2.2], [])
noncomputable def f9_D : List SV → Obs → Option (PV × (List Int) × PV × Int)
  | [.val 27 p1, .str s2, .val 43 p3, .int .i64 n4], [] => some (p1, s2, p3, n4)
  | _, _ => none
theorem f9_D_ok (args : List SV) (B : Obs) (x : PV × (List Int) × PV × Int) (h : f9_D args B = some x) : f9_I x = (args, B) := by
  unfold f9_D at h
  split at h
  · injection h with h; subst h; rfl
  · cases h
noncomputable def f9_O : Bool → Out := (fun y => ([.bool y], []))
noncomputable def f9_un : Out → Option (Bool)
  | ([.bool y0], []) => some y0
  | _ => none
theorem f9_un_ok (o : Out) (y : Bool) (h : f9_un o = some y) : o = f9_O y := by
  unfold f9_un at h
  split at h
  · injection h with h; subst h; rfl
  · cases h
noncomputable def f9_msk : Nat → Option (List Nat) := fun key =>  none
noncomputable def f9_C (c40 : (Bool → R) → R) (c41 : PV → Int → (Bool → R) → R) (c43 : PV → (List Int) → PV → (PV → Int → R) → R) : Oracle := orc 40 f40_D f40_O (fun x ret => c40 (fun y0 => ret y0)) <| orc 41 f41_D f41_O (fun x ret => c41 x.1 x.2 (fun y0 => ret y0)) <| orc 43 f43_D f43_O (fun x ret => c43 x.1 x.2.1 x.2.2 (fun y0 y1 => ret (y0, y1))) <| orc0
noncomputable def f9_E (k : Nat) (c40 : (Bool → R) → R) (c41 : PV → Int → (Bool → R) → R) (c43 : PV → (List Int) → PV → (PV → Int → R) → R) : Env := { P := Try.prog, nilOwn := fun d => false, fldOwn := fun d i => false, ownPar := ownPars, ownRet := false, mask := f9_msk, fuel := k, C := f9_C c40 c41 c43 }
noncomputable def f9_code : Code := Try.f9.body.getD .skip
noncomputable def f9_e (c40 : (Bool → R) → R) (c41 : PV → Int → (Bool → R) → R) (c43 : PV → (List Int) → PV → (PV → Int → R) → R) (ret0 : Bool → R) (p1 : PV) (s2 : List Int) (p3 : PV) (n4 : Int) : R :=
  c40 fun b5 =>
  bif (!b5) then
    ret0 false
  else c41 p1 60 fun b6 =>
  bif (b6 == false) then
    bif ((decide ((100 : Int) < (List.length s2 : Int))) == false) then
      bif ((decide ((60 : Int) < (List.length (PV.els p3) : Int))) == false) then
        bif ((decide (n4 < (0 : Int))) == false) then
          bif (decide ((List.length s2 : Int) ≤ n4)) then
            ret0 true
          else c43 p1 s2 p3 fun p7 n8 =>
          bif (!(decide (n8 = (0 : Int)))) then
            ret0 true
          else bif (decide ((0 : Int) ≤ (0 : Int)) && decide ((0 : Int) ≤ n4) && decide (n4 ≤ (List.length s2 : Int))) then
            c43 p1 (List.drop ((0 : Int)).toNat (List.take (n4).toNat s2)) p3 fun p9 n10 =>
            bif (decide (List.length s2 + List.length [48] ≤ 4611686018427387904)) then
              c43 p1 (s2 ++ [48]) p3 fun p11 n12 =>
              bif (decide (List.length s2 + List.length [49] ≤ 4611686018427387904)) then
                c43 p1 (s2 ++ [49]) p3 fun p13 n14 =>
                bif ((decide (n10 = (7 : Int))) == true) then
                  bif ((decide (n12 = (7 : Int))) == true) then
                    ret0 (decide (n14 = (7 : Int)))
                  else ret0 false
                else ret0 false
              else none
            else none
          else none
        else ret0 true
      else ret0 true
    else ret0 true
  else ret0 true

theorem f9_e_mem (k : Nat) (c40 : (Bool → R) → R) (c41 : PV → Int → (Bool → R) → R) (c43 : PV → (List Int) → PV → (PV → Int → R) → R) (retF : Bool → R) (p1 : PV) (s2 : List Int) (p3 : PV) (n4 : Int) : exec (f9_E k c40 c41 c43) f9_code (endK (f9_E k c40 c41 c43) Try.f9 [] f9_un retF) ⟨[.val 27 p1, .str s2, .val 43 p3, .int .i64 n4, .undef, .undef, .undef, .undef, .undef, .undef, .undef, .undef, .undef, .undef, .undef, .undef, .undef, .undef, .undef, .undef, .undef, .undef, .undef, .undef, .undef, .undef, .undef, .undef, .undef, .undef, .undef, .undef, .undef, .undef, .undef, .undef, .undef, .undef, .undef, .undef, .undef, .undef, .undef, .undef, .undef, .undef, .undef, .undef, .undef, .undef, .undef, .undef, .undef, .undef, .undef, .undef, .undef, .undef, .undef, .undef, .undef, .undef, .undef, .undef, .undef, .undef, .undef, .undef, .undef, .undef, .undef, .undef, .undef, .undef, .undef, .undef, .undef, .undef, .undef, .undef, .undef, .undef, .undef, .undef, .undef], []⟩ = f9_e c40 c41 c43 (fun y0 => retF y0) p1 s2 p3 n4 := by kernel_rfl

noncomputable def f9_N (k : Nat) (c40 : (Bool → R) → R) (c41 : PV → Int → (Bool → R) → R) (c43 : PV → (List Int) → PV → (PV → Int → R) → R) (ret0 : Bool → R) (p1 : PV) (s2 : List Int) (p3 : PV) (n4 : Int) : R :=
  f9_e c40 c41 c43 ret0 p1 s2 p3 n4
theorem f9_eq (k : Nat) (c40 : (Bool → R) → R) (c41 : PV → Int → (Bool → R) → R) (c43 : PV → (List Int) → PV → (PV → Int → R) → R) (retF : Bool → R) (p1 : PV) (s2 : List Int) (p3 : PV) (n4 : Int) : exec (f9_E k c40 c41 c43) f9_code (endK (f9_E k c40 c41 c43) Try.f9 [] f9_un retF) ⟨[.val 27 p1, .str s2, .val 43 p3, .int .i64 n4, .undef, .undef, .undef, .undef, .undef, .undef, .undef, .undef, .undef, .undef, .undef, .undef, .undef, .undef, .undef, .undef, .undef, .undef, .undef, .undef, .undef, .undef, .undef, .undef, .undef, .undef, .undef, .undef, .undef, .undef, .undef, .undef, .undef, .undef, .undef, .undef, .undef, .undef, .undef, .undef, .undef, .undef, .undef, .undef, .undef, .undef, .undef, .undef, .undef, .undef, .undef, .undef, .undef, .undef, .undef, .undef, .undef, .undef, .undef, .undef, .undef, .undef, .undef, .undef, .undef, .undef, .undef, .undef, .undef, .undef, .undef, .undef, .undef, .undef, .undef, .undef, .undef, .undef, .undef, .undef, .undef], []⟩ = f9_N k c40 c41 c43 (fun y0 => retF y0) p1 s2 p3 n4 :=
  (f9_e_mem k c40 c41 c43 retF p1 s2 p3 n4)

noncomputable def G9 : Nat → PV → (List Int) → PV → Int → (Bool → R) → R
  | 0, _, _, _, _, _ => none
  | k + 1, p1, s2, p3, n4, ret0 => f9_N k (G40 k) (G41 k) (G43 k) ret0 p1 s2 p3 n4
theorem S9 : ∀ k, Snd Try.prog 9 f9_I f9_O (fun x ret => G9 k x.1 x.2.1 x.2.2.1 x.2.2.2 (fun y0 => ret y0))
  | 0 => snd_none
  | k + 1 => snd_step (E := f9_E k (G40 k) (G41 k) (G43 k)) rfl laidOut noNums (orc_ok (S40 k).o f40_D_ok (orc_ok (S41 k).o f41_D_ok (orc_ok (S43 k).o f43_D_ok orc0_ok))) (f := 9) (fn := Try.f9) (code := f9_code) Try.func9 (by kernel_rfl) (drawsOk_of laidOut (orc_ok (S40 k).o f40_D_ok (orc_ok (S41 k).o f41_D_ok (orc_ok (S43 k).o f43_D_ok orc0_ok))) mixed (by kernel_rfl)) f9_un f9_un_ok [] (fun _ => rfl)
      (fun x ret => f9_eq k (G40 k) (G41 k) (G43 k) ret x.1 x.2.1 x.2.2.1 x.2.2.2)

end Go.Proofs.Ytbellpoahhhmhaa
