/- Functions of the program as Lean functions, each tied to the program by the kernel: catchpolelaw11.BitsKnown -/
import Derived.Test.YtbellpoahhhmhaaF
set_option linter.unusedVariables false
set_option maxRecDepth 100000
namespace Go.Proofs.Ytbellpoahhhmhaa
open Go Go.X
/- catchpole/value.text -/
noncomputable def f60_I : PV × PV × (List PV) → List SV × Obs := fun x => ([.ptr 2000000 [], .val 30 x.1], [(2000000, .box 76 (.agg 76 [.val 74 x.2.1, .own 43 2000001])), (2000001, .row 5 x.2.2)])
noncomputable def f60_D : List SV → Obs → Option (PV × PV × (List PV))
  | [.ptr 2000000 [], .val 30 p1], [(2000000, .box 76 (.agg 76 [.val 74 p2, .own 43 2000001])), (2000001, .row 5 l3)] => some (p1, p2, l3)
  | _, _ => none
theorem f60_D_ok (args : List SV) (B : Obs) (x : PV × PV × (List PV)) (h : f60_D args B = some x) : f60_I x = (args, B) := by
  unfold f60_D at h
  split at h
  · injection h with h; subst h; rfl
  · cases h
noncomputable def f60_O : (List PV) → Out := (fun y => ([], [(2000000, .box 76 (.agg 76 [.ptr 2000000 [], .own 43 2000001])), (2000001, .row 5 y)]))
noncomputable def f60_un : Out → Option ((List PV))
  | ([], [(2000000, .box 76 (.agg 76 [.ptr 2000000 [], .own 43 2000001])), (2000001, .row 5 y0)]) => some y0
  | _ => none
theorem f60_un_ok (o : Out) (y : (List PV)) (h : f60_un o = some y) : o = f60_O y := by
  unfold f60_un at h
  split at h
  · injection h with h; subst h; rfl
  · cases h
noncomputable def f60_msk : Nat → Option (List Nat) := fun key => bif key == 63 then some [0, 5, 49, 50, 51] else none
noncomputable def f60_C (c59 : PV → (PV → R) → R) (c60v1 : PV → (List PV) → ((List PV) → R) → R) (c82 : (List Int) → PV → (List PV) → (Int → PV → (List PV) → R) → R) (c82v1 : (List Int) → (List PV) → (Int → PV → (List PV) → R) → R) : Oracle := orc 59 f59_D f59_O (fun x ret => c59 x (fun y0 => ret y0)) <| orc 60 f60v1_D f60v1_O (fun x ret => c60v1 x.1 x.2 (fun y0 => ret y0)) <| orc 82 f82_D f82_O (fun x ret => c82 x.1 x.2.1 x.2.2 (fun y0 y1 y2 => ret (y0, y1, y2))) <| orc 82 f82v1_D f82v1_O (fun x ret => c82v1 x.1 x.2 (fun y0 y1 y2 => ret (y0, y1, y2))) <| orc0
noncomputable def f60_E (k : Nat) (c59 : PV → (PV → R) → R) (c60v1 : PV → (List PV) → ((List PV) → R) → R) (c82 : (List Int) → PV → (List PV) → (Int → PV → (List PV) → R) → R) (c82v1 : (List Int) → (List PV) → (Int → PV → (List PV) → R) → R) : Env := { P := Try.prog, nilOwn := fun d => false, fldOwn := fun d i => false, ownPar := ownPars, ownRet := false, mask := f60_msk, fuel := k, C := f60_C c59 c60v1 c82 c82v1 }
noncomputable def f60_code : Code := Try.f60.body.getD .skip
noncomputable def f60_cw1 : Code := subC f60_code [1, 1, 1, 1, 0, 1, 0, 0]
noncomputable def f60_hw1_0 (p7 : PV) (n12 : Int) (l13 : List PV) : St := ⟨[.ptr 2000000 [], .dead, .dead, .dead, .dead, .str [], .dead, .dead, .dead, .dead, .dead, .dead, .dead, .dead, .dead, .dead, .dead, .dead, .dead, .dead, .dead, .dead, .dead, .dead, .dead, .dead, .dead, .dead, .dead, .dead, .dead, .dead, .dead, .dead, .dead, .dead, .dead, .dead, .dead, .dead, .dead, .dead, .dead, .dead, .dead, .dead, .dead, .dead, .dead, .val 28 p7, .int .i64 (List.length (PV.els p7) : Int), .int .i64 n12, .dead, .dead, .dead, .dead, .dead, .dead, .dead, .dead, .dead, .dead, .dead, .dead, .dead, .dead, .dead], [(2000000, .box 76 (.agg 76 [.ptr 2000000 [], .own 43 2000001])), (2000001, .row 5 l13)]⟩
noncomputable def f60_w1A (k : Nat) (c59 : PV → (PV → R) → R) (c60v1 : PV → (List PV) → ((List PV) → R) → R) (c82 : (List Int) → PV → (List PV) → (Int → PV → (List PV) → R) → R) (c82v1 : (List Int) → (List PV) → (Int → PV → (List PV) → R) → R) (retF : (List PV) → R) (p7 : PV) (n12 : Int) (l13 : List PV) : R := loopM (f60_E k c59 c60v1 c82 c82v1) f60_cw1 (kont (f60_E k c59 c60v1 c82 c82v1) f60_code [1, 1, 1, 1, 0, 1, 0] (endK (f60_E k c59 c60v1 c82 c82v1) Try.f60 [2000000, 2000001] f60_un retF)) k (f60_hw1_0 p7 n12 l13)
noncomputable def f60_w1b0 (c59 : PV → (PV → R) → R) (c60v1 : PV → (List PV) → ((List PV) → R) → R) (c82 : (List Int) → PV → (List PV) → (Int → PV → (List PV) → R) → R) (c82v1 : (List Int) → (List PV) → (Int → PV → (List PV) → R) → R) (ret0 : (List PV) → R) (next_w1_0 : Int → (List PV) → R) (p7 : PV) (n12 : Int) (l13 : List PV) : R :=
  bif (decide (n12 < (List.length (PV.els p7) : Int))) then
    bif (true && decide ((0 : Int) ≤ n12) && decide (n12 < (List.length (PV.els p7) : Int))) then
      bif (decide ((0 : Int) < n12)) then
        c82v1 [44] l13 fun n14 p15 l16 =>
        c60v1 (List.getD (PV.els p7) (n12).toNat PV.nil) l16 fun l17 =>
        next_w1_0 (IntKind.wrap .i64 (n12 + (1 : Int))) l17
      else c60v1 (List.getD (PV.els p7) (n12).toNat PV.nil) l13 fun l18 =>
      next_w1_0 (IntKind.wrap .i64 (n12 + (1 : Int))) l18
    else none
  else c82v1 [] l13 fun n19 p20 l21 =>
  ret0 l21

theorem f60_w1b0_mem (k : Nat) (c59 : PV → (PV → R) → R) (c60v1 : PV → (List PV) → ((List PV) → R) → R) (c82 : (List Int) → PV → (List PV) → (Int → PV → (List PV) → R) → R) (c82v1 : (List Int) → (List PV) → (Int → PV → (List PV) → R) → R) (retF : (List PV) → R) (NX_w1 : St → R) (p7 : PV) (n12 : Int) (l13 : List PV) : exec (f60_E k c59 c60v1 c82 c82v1) f60_cw1 (purgeK (f60_E k c59 c60v1 c82 c82v1) f60_cw1 (loopK NX_w1 (kont (f60_E k c59 c60v1 c82 c82v1) f60_code [1, 1, 1, 1, 0, 1, 0] (endK (f60_E k c59 c60v1 c82 c82v1) Try.f60 [2000000, 2000001] f60_un retF)))) (f60_hw1_0 p7 n12 l13) = f60_w1b0 c59 c60v1 c82 c82v1 (fun y0 => retF y0) (fun n12 l13 => NX_w1 (f60_hw1_0 p7 n12 l13)) p7 n12 l13 := by kernel_rfl

noncomputable def f60_w1b0N (k : Nat) (c59 : PV → (PV → R) → R) (c60v1 : PV → (List PV) → ((List PV) → R) → R) (c82 : (List Int) → PV → (List PV) → (Int → PV → (List PV) → R) → R) (c82v1 : (List Int) → (List PV) → (Int → PV → (List PV) → R) → R) (ret0 : (List PV) → R) (next_w1_0 : Int → (List PV) → R) (p7 : PV) (n12 : Int) (l13 : List PV) : R :=
  f60_w1b0 c59 c60v1 c82 c82v1 ret0 next_w1_0 p7 n12 l13
theorem f60_w1b0_eq (k : Nat) (c59 : PV → (PV → R) → R) (c60v1 : PV → (List PV) → ((List PV) → R) → R) (c82 : (List Int) → PV → (List PV) → (Int → PV → (List PV) → R) → R) (c82v1 : (List Int) → (List PV) → (Int → PV → (List PV) → R) → R) (retF : (List PV) → R) (NX_w1 : St → R) (p7 : PV) (n12 : Int) (l13 : List PV) : exec (f60_E k c59 c60v1 c82 c82v1) f60_cw1 (purgeK (f60_E k c59 c60v1 c82 c82v1) f60_cw1 (loopK NX_w1 (kont (f60_E k c59 c60v1 c82 c82v1) f60_code [1, 1, 1, 1, 0, 1, 0] (endK (f60_E k c59 c60v1 c82 c82v1) Try.f60 [2000000, 2000001] f60_un retF)))) (f60_hw1_0 p7 n12 l13) = f60_w1b0N k c59 c60v1 c82 c82v1 (fun y0 => retF y0) (fun n12 l13 => NX_w1 (f60_hw1_0 p7 n12 l13)) p7 n12 l13 :=
  (f60_w1b0_mem k c59 c60v1 c82 c82v1 retF NX_w1 p7 n12 l13)

noncomputable def f60_w1B (k : Nat) (c59 : PV → (PV → R) → R) (c60v1 : PV → (List PV) → ((List PV) → R) → R) (c82 : (List Int) → PV → (List PV) → (Int → PV → (List PV) → R) → R) (c82v1 : (List Int) → (List PV) → (Int → PV → (List PV) → R) → R) (ret0 : (List PV) → R) (p7 : PV) (nx : Int × (List PV) → R) : Int × (List PV) → R := (fun s => f60_w1b0N k c59 c60v1 c82 c82v1 ret0 (fun n12 l13 => nx (n12, l13)) p7 s.1 s.2)
noncomputable def f60_w1N (k : Nat) (c59 : PV → (PV → R) → R) (c60v1 : PV → (List PV) → ((List PV) → R) → R) (c82 : (List Int) → PV → (List PV) → (Int → PV → (List PV) → R) → R) (c82v1 : (List Int) → (List PV) → (Int → PV → (List PV) → R) → R) (ret0 : (List PV) → R) (p7 : PV) (n12 : Int) (l13 : List PV) : R := loopR (f60_w1B k c59 c60v1 c82 c82v1 ret0 p7) k (n12, l13)
theorem f60_w1_eq (k : Nat) (c59 : PV → (PV → R) → R) (c60v1 : PV → (List PV) → ((List PV) → R) → R) (c82 : (List Int) → PV → (List PV) → (Int → PV → (List PV) → R) → R) (c82v1 : (List Int) → (List PV) → (Int → PV → (List PV) → R) → R) (retF : (List PV) → R) (p7 : PV) (n12 : Int) (l13 : List PV) : f60_w1A k c59 c60v1 c82 c82v1 retF p7 n12 l13 = f60_w1N k c59 c60v1 c82 c82v1 (fun y0 => retF y0) p7 n12 l13 :=
  Eq.mp (by kernel_rfl) (loop_sim (E := (f60_E k c59 c60v1 c82 c82v1)) (c := f60_cw1) (K := (kont (f60_E k c59 c60v1 c82 c82v1) f60_code [1, 1, 1, 1, 0, 1, 0] (endK (f60_E k c59 c60v1 c82 c82v1) Try.f60 [2000000, 2000001] f60_un retF))) (S := Int × (List PV)) (fun s => f60_hw1_0 p7 s.1 s.2) (f60_w1B k c59 c60v1 c82 c82v1 (fun y0 => retF y0) p7) (fun NX s => by
    exact Eq.mp (by kernel_rfl) (f60_w1b0_eq k c59 c60v1 c82 c82v1 retF NX p7 s.1 s.2)) k (n12, l13))

noncomputable def f60_cw2 : Code := subC f60_code [1, 1, 1, 1, 0, 1, 0, 0]
noncomputable def f60_hw2_0 (p27 : PV) (n32 : Int) (l33 : List PV) : St := ⟨[.ptr 2000000 [], .dead, .dead, .dead, .dead, .str [], .dead, .dead, .dead, .dead, .dead, .dead, .dead, .dead, .dead, .dead, .dead, .dead, .dead, .dead, .dead, .dead, .dead, .dead, .dead, .dead, .dead, .dead, .dead, .dead, .dead, .dead, .dead, .dead, .dead, .dead, .dead, .dead, .dead, .dead, .dead, .dead, .dead, .dead, .dead, .dead, .dead, .dead, .dead, .val 28 p27, .int .i64 (List.length (PV.els p27) : Int), .int .i64 n32, .dead, .dead, .dead, .dead, .dead, .dead, .dead, .dead, .dead, .dead, .dead, .dead, .dead, .dead, .dead], [(2000000, .box 76 (.agg 76 [.ptr 2000000 [], .own 43 2000001])), (2000001, .row 5 l33)]⟩
noncomputable def f60_w2A (k : Nat) (c59 : PV → (PV → R) → R) (c60v1 : PV → (List PV) → ((List PV) → R) → R) (c82 : (List Int) → PV → (List PV) → (Int → PV → (List PV) → R) → R) (c82v1 : (List Int) → (List PV) → (Int → PV → (List PV) → R) → R) (retF : (List PV) → R) (p27 : PV) (n32 : Int) (l33 : List PV) : R := loopM (f60_E k c59 c60v1 c82 c82v1) f60_cw2 (kont (f60_E k c59 c60v1 c82 c82v1) f60_code [1, 1, 1, 1, 0, 1, 0] (endK (f60_E k c59 c60v1 c82 c82v1) Try.f60 [2000000, 2000001] f60_un retF)) k (f60_hw2_0 p27 n32 l33)
noncomputable def f60_w2b0 (c59 : PV → (PV → R) → R) (c60v1 : PV → (List PV) → ((List PV) → R) → R) (c82 : (List Int) → PV → (List PV) → (Int → PV → (List PV) → R) → R) (c82v1 : (List Int) → (List PV) → (Int → PV → (List PV) → R) → R) (ret0 : (List PV) → R) (next_w2_0 : Int → (List PV) → R) (p27 : PV) (n32 : Int) (l33 : List PV) : R :=
  bif (decide (n32 < (List.length (PV.els p27) : Int))) then
    bif (true && decide ((0 : Int) ≤ n32) && decide (n32 < (List.length (PV.els p27) : Int))) then
      bif (decide ((0 : Int) < n32)) then
        c82v1 [44] l33 fun n34 p35 l36 =>
        c60v1 (List.getD (PV.els p27) (n32).toNat PV.nil) l36 fun l37 =>
        next_w2_0 (IntKind.wrap .i64 (n32 + (1 : Int))) l37
      else c60v1 (List.getD (PV.els p27) (n32).toNat PV.nil) l33 fun l38 =>
      next_w2_0 (IntKind.wrap .i64 (n32 + (1 : Int))) l38
    else none
  else c82v1 [] l33 fun n39 p40 l41 =>
  ret0 l41

theorem f60_w2b0_mem (k : Nat) (c59 : PV → (PV → R) → R) (c60v1 : PV → (List PV) → ((List PV) → R) → R) (c82 : (List Int) → PV → (List PV) → (Int → PV → (List PV) → R) → R) (c82v1 : (List Int) → (List PV) → (Int → PV → (List PV) → R) → R) (retF : (List PV) → R) (NX_w2 : St → R) (p27 : PV) (n32 : Int) (l33 : List PV) : exec (f60_E k c59 c60v1 c82 c82v1) f60_cw2 (purgeK (f60_E k c59 c60v1 c82 c82v1) f60_cw2 (loopK NX_w2 (kont (f60_E k c59 c60v1 c82 c82v1) f60_code [1, 1, 1, 1, 0, 1, 0] (endK (f60_E k c59 c60v1 c82 c82v1) Try.f60 [2000000, 2000001] f60_un retF)))) (f60_hw2_0 p27 n32 l33) = f60_w2b0 c59 c60v1 c82 c82v1 (fun y0 => retF y0) (fun n32 l33 => NX_w2 (f60_hw2_0 p27 n32 l33)) p27 n32 l33 := by kernel_rfl

noncomputable def f60_w2b0N (k : Nat) (c59 : PV → (PV → R) → R) (c60v1 : PV → (List PV) → ((List PV) → R) → R) (c82 : (List Int) → PV → (List PV) → (Int → PV → (List PV) → R) → R) (c82v1 : (List Int) → (List PV) → (Int → PV → (List PV) → R) → R) (ret0 : (List PV) → R) (next_w2_0 : Int → (List PV) → R) (p27 : PV) (n32 : Int) (l33 : List PV) : R :=
  f60_w2b0 c59 c60v1 c82 c82v1 ret0 next_w2_0 p27 n32 l33
theorem f60_w2b0_eq (k : Nat) (c59 : PV → (PV → R) → R) (c60v1 : PV → (List PV) → ((List PV) → R) → R) (c82 : (List Int) → PV → (List PV) → (Int → PV → (List PV) → R) → R) (c82v1 : (List Int) → (List PV) → (Int → PV → (List PV) → R) → R) (retF : (List PV) → R) (NX_w2 : St → R) (p27 : PV) (n32 : Int) (l33 : List PV) : exec (f60_E k c59 c60v1 c82 c82v1) f60_cw2 (purgeK (f60_E k c59 c60v1 c82 c82v1) f60_cw2 (loopK NX_w2 (kont (f60_E k c59 c60v1 c82 c82v1) f60_code [1, 1, 1, 1, 0, 1, 0] (endK (f60_E k c59 c60v1 c82 c82v1) Try.f60 [2000000, 2000001] f60_un retF)))) (f60_hw2_0 p27 n32 l33) = f60_w2b0N k c59 c60v1 c82 c82v1 (fun y0 => retF y0) (fun n32 l33 => NX_w2 (f60_hw2_0 p27 n32 l33)) p27 n32 l33 :=
  (f60_w2b0_mem k c59 c60v1 c82 c82v1 retF NX_w2 p27 n32 l33)

noncomputable def f60_w2B (k : Nat) (c59 : PV → (PV → R) → R) (c60v1 : PV → (List PV) → ((List PV) → R) → R) (c82 : (List Int) → PV → (List PV) → (Int → PV → (List PV) → R) → R) (c82v1 : (List Int) → (List PV) → (Int → PV → (List PV) → R) → R) (ret0 : (List PV) → R) (p27 : PV) (nx : Int × (List PV) → R) : Int × (List PV) → R := (fun s => f60_w2b0N k c59 c60v1 c82 c82v1 ret0 (fun n32 l33 => nx (n32, l33)) p27 s.1 s.2)
noncomputable def f60_w2N (k : Nat) (c59 : PV → (PV → R) → R) (c60v1 : PV → (List PV) → ((List PV) → R) → R) (c82 : (List Int) → PV → (List PV) → (Int → PV → (List PV) → R) → R) (c82v1 : (List Int) → (List PV) → (Int → PV → (List PV) → R) → R) (ret0 : (List PV) → R) (p27 : PV) (n32 : Int) (l33 : List PV) : R := loopR (f60_w2B k c59 c60v1 c82 c82v1 ret0 p27) k (n32, l33)
theorem f60_w2_eq (k : Nat) (c59 : PV → (PV → R) → R) (c60v1 : PV → (List PV) → ((List PV) → R) → R) (c82 : (List Int) → PV → (List PV) → (Int → PV → (List PV) → R) → R) (c82v1 : (List Int) → (List PV) → (Int → PV → (List PV) → R) → R) (retF : (List PV) → R) (p27 : PV) (n32 : Int) (l33 : List PV) : f60_w2A k c59 c60v1 c82 c82v1 retF p27 n32 l33 = f60_w2N k c59 c60v1 c82 c82v1 (fun y0 => retF y0) p27 n32 l33 :=
  Eq.mp (by kernel_rfl) (loop_sim (E := (f60_E k c59 c60v1 c82 c82v1)) (c := f60_cw2) (K := (kont (f60_E k c59 c60v1 c82 c82v1) f60_code [1, 1, 1, 1, 0, 1, 0] (endK (f60_E k c59 c60v1 c82 c82v1) Try.f60 [2000000, 2000001] f60_un retF))) (S := Int × (List PV)) (fun s => f60_hw2_0 p27 s.1 s.2) (f60_w2B k c59 c60v1 c82 c82v1 (fun y0 => retF y0) p27) (fun NX s => by
    exact Eq.mp (by kernel_rfl) (f60_w2b0_eq k c59 c60v1 c82 c82v1 retF NX p27 s.1 s.2)) k (n32, l33))

noncomputable def f60_cw3 : Code := subC f60_code [1, 1, 1, 1, 0, 1, 0, 0]
noncomputable def f60_hw3_0 (p45 : PV) (n50 : Int) (l51 : List PV) : St := ⟨[.ptr 2000000 [], .dead, .dead, .dead, .dead, .str [44, 41], .dead, .dead, .dead, .dead, .dead, .dead, .dead, .dead, .dead, .dead, .dead, .dead, .dead, .dead, .dead, .dead, .dead, .dead, .dead, .dead, .dead, .dead, .dead, .dead, .dead, .dead, .dead, .dead, .dead, .dead, .dead, .dead, .dead, .dead, .dead, .dead, .dead, .dead, .dead, .dead, .dead, .dead, .dead, .val 28 p45, .int .i64 (List.length (PV.els p45) : Int), .int .i64 n50, .dead, .dead, .dead, .dead, .dead, .dead, .dead, .dead, .dead, .dead, .dead, .dead, .dead, .dead, .dead], [(2000000, .box 76 (.agg 76 [.ptr 2000000 [], .own 43 2000001])), (2000001, .row 5 l51)]⟩
noncomputable def f60_w3A (k : Nat) (c59 : PV → (PV → R) → R) (c60v1 : PV → (List PV) → ((List PV) → R) → R) (c82 : (List Int) → PV → (List PV) → (Int → PV → (List PV) → R) → R) (c82v1 : (List Int) → (List PV) → (Int → PV → (List PV) → R) → R) (retF : (List PV) → R) (p45 : PV) (n50 : Int) (l51 : List PV) : R := loopM (f60_E k c59 c60v1 c82 c82v1) f60_cw3 (kont (f60_E k c59 c60v1 c82 c82v1) f60_code [1, 1, 1, 1, 0, 1, 0] (endK (f60_E k c59 c60v1 c82 c82v1) Try.f60 [2000000, 2000001] f60_un retF)) k (f60_hw3_0 p45 n50 l51)
noncomputable def f60_w3b0 (c59 : PV → (PV → R) → R) (c60v1 : PV → (List PV) → ((List PV) → R) → R) (c82 : (List Int) → PV → (List PV) → (Int → PV → (List PV) → R) → R) (c82v1 : (List Int) → (List PV) → (Int → PV → (List PV) → R) → R) (ret0 : (List PV) → R) (next_w3_0 : Int → (List PV) → R) (p45 : PV) (n50 : Int) (l51 : List PV) : R :=
  bif (decide (n50 < (List.length (PV.els p45) : Int))) then
    bif (true && decide ((0 : Int) ≤ n50) && decide (n50 < (List.length (PV.els p45) : Int))) then
      bif (decide ((0 : Int) < n50)) then
        c82v1 [44] l51 fun n52 p53 l54 =>
        c60v1 (List.getD (PV.els p45) (n50).toNat PV.nil) l54 fun l55 =>
        next_w3_0 (IntKind.wrap .i64 (n50 + (1 : Int))) l55
      else c60v1 (List.getD (PV.els p45) (n50).toNat PV.nil) l51 fun l56 =>
      next_w3_0 (IntKind.wrap .i64 (n50 + (1 : Int))) l56
    else none
  else c82v1 [44, 41] l51 fun n57 p58 l59 =>
  ret0 l59

theorem f60_w3b0_mem (k : Nat) (c59 : PV → (PV → R) → R) (c60v1 : PV → (List PV) → ((List PV) → R) → R) (c82 : (List Int) → PV → (List PV) → (Int → PV → (List PV) → R) → R) (c82v1 : (List Int) → (List PV) → (Int → PV → (List PV) → R) → R) (retF : (List PV) → R) (NX_w3 : St → R) (p45 : PV) (n50 : Int) (l51 : List PV) : exec (f60_E k c59 c60v1 c82 c82v1) f60_cw3 (purgeK (f60_E k c59 c60v1 c82 c82v1) f60_cw3 (loopK NX_w3 (kont (f60_E k c59 c60v1 c82 c82v1) f60_code [1, 1, 1, 1, 0, 1, 0] (endK (f60_E k c59 c60v1 c82 c82v1) Try.f60 [2000000, 2000001] f60_un retF)))) (f60_hw3_0 p45 n50 l51) = f60_w3b0 c59 c60v1 c82 c82v1 (fun y0 => retF y0) (fun n50 l51 => NX_w3 (f60_hw3_0 p45 n50 l51)) p45 n50 l51 := by kernel_rfl

noncomputable def f60_w3b0N (k : Nat) (c59 : PV → (PV → R) → R) (c60v1 : PV → (List PV) → ((List PV) → R) → R) (c82 : (List Int) → PV → (List PV) → (Int → PV → (List PV) → R) → R) (c82v1 : (List Int) → (List PV) → (Int → PV → (List PV) → R) → R) (ret0 : (List PV) → R) (next_w3_0 : Int → (List PV) → R) (p45 : PV) (n50 : Int) (l51 : List PV) : R :=
  f60_w3b0 c59 c60v1 c82 c82v1 ret0 next_w3_0 p45 n50 l51
theorem f60_w3b0_eq (k : Nat) (c59 : PV → (PV → R) → R) (c60v1 : PV → (List PV) → ((List PV) → R) → R) (c82 : (List Int) → PV → (List PV) → (Int → PV → (List PV) → R) → R) (c82v1 : (List Int) → (List PV) → (Int → PV → (List PV) → R) → R) (retF : (List PV) → R) (NX_w3 : St → R) (p45 : PV) (n50 : Int) (l51 : List PV) : exec (f60_E k c59 c60v1 c82 c82v1) f60_cw3 (purgeK (f60_E k c59 c60v1 c82 c82v1) f60_cw3 (loopK NX_w3 (kont (f60_E k c59 c60v1 c82 c82v1) f60_code [1, 1, 1, 1, 0, 1, 0] (endK (f60_E k c59 c60v1 c82 c82v1) Try.f60 [2000000, 2000001] f60_un retF)))) (f60_hw3_0 p45 n50 l51) = f60_w3b0N k c59 c60v1 c82 c82v1 (fun y0 => retF y0) (fun n50 l51 => NX_w3 (f60_hw3_0 p45 n50 l51)) p45 n50 l51 :=
  (f60_w3b0_mem k c59 c60v1 c82 c82v1 retF NX_w3 p45 n50 l51)

noncomputable def f60_w3B (k : Nat) (c59 : PV → (PV → R) → R) (c60v1 : PV → (List PV) → ((List PV) → R) → R) (c82 : (List Int) → PV → (List PV) → (Int → PV → (List PV) → R) → R) (c82v1 : (List Int) → (List PV) → (Int → PV → (List PV) → R) → R) (ret0 : (List PV) → R) (p45 : PV) (nx : Int × (List PV) → R) : Int × (List PV) → R := (fun s => f60_w3b0N k c59 c60v1 c82 c82v1 ret0 (fun n50 l51 => nx (n50, l51)) p45 s.1 s.2)
noncomputable def f60_w3N (k : Nat) (c59 : PV → (PV → R) → R) (c60v1 : PV → (List PV) → ((List PV) → R) → R) (c82 : (List Int) → PV → (List PV) → (Int → PV → (List PV) → R) → R) (c82v1 : (List Int) → (List PV) → (Int → PV → (List PV) → R) → R) (ret0 : (List PV) → R) (p45 : PV) (n50 : Int) (l51 : List PV) : R := loopR (f60_w3B k c59 c60v1 c82 c82v1 ret0 p45) k (n50, l51)
theorem f60_w3_eq (k : Nat) (c59 : PV → (PV → R) → R) (c60v1 : PV → (List PV) → ((List PV) → R) → R) (c82 : (List Int) → PV → (List PV) → (Int → PV → (List PV) → R) → R) (c82v1 : (List Int) → (List PV) → (Int → PV → (List PV) → R) → R) (retF : (List PV) → R) (p45 : PV) (n50 : Int) (l51 : List PV) : f60_w3A k c59 c60v1 c82 c82v1 retF p45 n50 l51 = f60_w3N k c59 c60v1 c82 c82v1 (fun y0 => retF y0) p45 n50 l51 :=
  Eq.mp (by kernel_rfl) (loop_sim (E := (f60_E k c59 c60v1 c82 c82v1)) (c := f60_cw3) (K := (kont (f60_E k c59 c60v1 c82 c82v1) f60_code [1, 1, 1, 1, 0, 1, 0] (endK (f60_E k c59 c60v1 c82 c82v1) Try.f60 [2000000, 2000001] f60_un retF))) (S := Int × (List PV)) (fun s => f60_hw3_0 p45 s.1 s.2) (f60_w3B k c59 c60v1 c82 c82v1 (fun y0 => retF y0) p45) (fun NX s => by
    exact Eq.mp (by kernel_rfl) (f60_w3b0_eq k c59 c60v1 c82 c82v1 retF NX p45 s.1 s.2)) k (n50, l51))

noncomputable def f60_cw4 : Code := subC f60_code [1, 1, 1, 1, 0, 1, 0, 0]
noncomputable def f60_hw4_0 (p63 : PV) (n68 : Int) (l69 : List PV) : St := ⟨[.ptr 2000000 [], .dead, .dead, .dead, .dead, .str [41], .dead, .dead, .dead, .dead, .dead, .dead, .dead, .dead, .dead, .dead, .dead, .dead, .dead, .dead, .dead, .dead, .dead, .dead, .dead, .dead, .dead, .dead, .dead, .dead, .dead, .dead, .dead, .dead, .dead, .dead, .dead, .dead, .dead, .dead, .dead, .dead, .dead, .dead, .dead, .dead, .dead, .dead, .dead, .val 28 p63, .int .i64 (List.length (PV.els p63) : Int), .int .i64 n68, .dead, .dead, .dead, .dead, .dead, .dead, .dead, .dead, .dead, .dead, .dead, .dead, .dead, .dead, .dead], [(2000000, .box 76 (.agg 76 [.ptr 2000000 [], .own 43 2000001])), (2000001, .row 5 l69)]⟩
noncomputable def f60_w4A (k : Nat) (c59 : PV → (PV → R) → R) (c60v1 : PV → (List PV) → ((List PV) → R) → R) (c82 : (List Int) → PV → (List PV) → (Int → PV → (List PV) → R) → R) (c82v1 : (List Int) → (List PV) → (Int → PV → (List PV) → R) → R) (retF : (List PV) → R) (p63 : PV) (n68 : Int) (l69 : List PV) : R := loopM (f60_E k c59 c60v1 c82 c82v1) f60_cw4 (kont (f60_E k c59 c60v1 c82 c82v1) f60_code [1, 1, 1, 1, 0, 1, 0] (endK (f60_E k c59 c60v1 c82 c82v1) Try.f60 [2000000, 2000001] f60_un retF)) k (f60_hw4_0 p63 n68 l69)
noncomputable def f60_w4b0 (c59 : PV → (PV → R) → R) (c60v1 : PV → (List PV) → ((List PV) → R) → R) (c82 : (List Int) → PV → (List PV) → (Int → PV → (List PV) → R) → R) (c82v1 : (List Int) → (List PV) → (Int → PV → (List PV) → R) → R) (ret0 : (List PV) → R) (next_w4_0 : Int → (List PV) → R) (p63 : PV) (n68 : Int) (l69 : List PV) : R :=
  bif (decide (n68 < (List.length (PV.els p63) : Int))) then
    bif (true && decide ((0 : Int) ≤ n68) && decide (n68 < (List.length (PV.els p63) : Int))) then
      bif (decide ((0 : Int) < n68)) then
        c82v1 [44] l69 fun n70 p71 l72 =>
        c60v1 (List.getD (PV.els p63) (n68).toNat PV.nil) l72 fun l73 =>
        next_w4_0 (IntKind.wrap .i64 (n68 + (1 : Int))) l73
      else c60v1 (List.getD (PV.els p63) (n68).toNat PV.nil) l69 fun l74 =>
      next_w4_0 (IntKind.wrap .i64 (n68 + (1 : Int))) l74
    else none
  else c82v1 [41] l69 fun n75 p76 l77 =>
  ret0 l77

theorem f60_w4b0_mem (k : Nat) (c59 : PV → (PV → R) → R) (c60v1 : PV → (List PV) → ((List PV) → R) → R) (c82 : (List Int) → PV → (List PV) → (Int → PV → (List PV) → R) → R) (c82v1 : (List Int) → (List PV) → (Int → PV → (List PV) → R) → R) (retF : (List PV) → R) (NX_w4 : St → R) (p63 : PV) (n68 : Int) (l69 : List PV) : exec (f60_E k c59 c60v1 c82 c82v1) f60_cw4 (purgeK (f60_E k c59 c60v1 c82 c82v1) f60_cw4 (loopK NX_w4 (kont (f60_E k c59 c60v1 c82 c82v1) f60_code [1, 1, 1, 1, 0, 1, 0] (endK (f60_E k c59 c60v1 c82 c82v1) Try.f60 [2000000, 2000001] f60_un retF)))) (f60_hw4_0 p63 n68 l69) = f60_w4b0 c59 c60v1 c82 c82v1 (fun y0 => retF y0) (fun n68 l69 => NX_w4 (f60_hw4_0 p63 n68 l69)) p63 n68 l69 := by kernel_rfl

noncomputable def f60_w4b0N (k : Nat) (c59 : PV → (PV → R) → R) (c60v1 : PV → (List PV) → ((List PV) → R) → R) (c82 : (List Int) → PV → (List PV) → (Int → PV → (List PV) → R) → R) (c82v1 : (List Int) → (List PV) → (Int → PV → (List PV) → R) → R) (ret0 : (List PV) → R) (next_w4_0 : Int → (List PV) → R) (p63 : PV) (n68 : Int) (l69 : List PV) : R :=
  f60_w4b0 c59 c60v1 c82 c82v1 ret0 next_w4_0 p63 n68 l69
theorem f60_w4b0_eq (k : Nat) (c59 : PV → (PV → R) → R) (c60v1 : PV → (List PV) → ((List PV) → R) → R) (c82 : (List Int) → PV → (List PV) → (Int → PV → (List PV) → R) → R) (c82v1 : (List Int) → (List PV) → (Int → PV → (List PV) → R) → R) (retF : (List PV) → R) (NX_w4 : St → R) (p63 : PV) (n68 : Int) (l69 : List PV) : exec (f60_E k c59 c60v1 c82 c82v1) f60_cw4 (purgeK (f60_E k c59 c60v1 c82 c82v1) f60_cw4 (loopK NX_w4 (kont (f60_E k c59 c60v1 c82 c82v1) f60_code [1, 1, 1, 1, 0, 1, 0] (endK (f60_E k c59 c60v1 c82 c82v1) Try.f60 [2000000, 2000001] f60_un retF)))) (f60_hw4_0 p63 n68 l69) = f60_w4b0N k c59 c60v1 c82 c82v1 (fun y0 => retF y0) (fun n68 l69 => NX_w4 (f60_hw4_0 p63 n68 l69)) p63 n68 l69 :=
  (f60_w4b0_mem k c59 c60v1 c82 c82v1 retF NX_w4 p63 n68 l69)

noncomputable def f60_w4B (k : Nat) (c59 : PV → (PV → R) → R) (c60v1 : PV → (List PV) → ((List PV) → R) → R) (c82 : (List Int) → PV → (List PV) → (Int → PV → (List PV) → R) → R) (c82v1 : (List Int) → (List PV) → (Int → PV → (List PV) → R) → R) (ret0 : (List PV) → R) (p63 : PV) (nx : Int × (List PV) → R) : Int × (List PV) → R := (fun s => f60_w4b0N k c59 c60v1 c82 c82v1 ret0 (fun n68 l69 => nx (n68, l69)) p63 s.1 s.2)
noncomputable def f60_w4N (k : Nat) (c59 : PV → (PV → R) → R) (c60v1 : PV → (List PV) → ((List PV) → R) → R) (c82 : (List Int) → PV → (List PV) → (Int → PV → (List PV) → R) → R) (c82v1 : (List Int) → (List PV) → (Int → PV → (List PV) → R) → R) (ret0 : (List PV) → R) (p63 : PV) (n68 : Int) (l69 : List PV) : R := loopR (f60_w4B k c59 c60v1 c82 c82v1 ret0 p63) k (n68, l69)
theorem f60_w4_eq (k : Nat) (c59 : PV → (PV → R) → R) (c60v1 : PV → (List PV) → ((List PV) → R) → R) (c82 : (List Int) → PV → (List PV) → (Int → PV → (List PV) → R) → R) (c82v1 : (List Int) → (List PV) → (Int → PV → (List PV) → R) → R) (retF : (List PV) → R) (p63 : PV) (n68 : Int) (l69 : List PV) : f60_w4A k c59 c60v1 c82 c82v1 retF p63 n68 l69 = f60_w4N k c59 c60v1 c82 c82v1 (fun y0 => retF y0) p63 n68 l69 :=
  Eq.mp (by kernel_rfl) (loop_sim (E := (f60_E k c59 c60v1 c82 c82v1)) (c := f60_cw4) (K := (kont (f60_E k c59 c60v1 c82 c82v1) f60_code [1, 1, 1, 1, 0, 1, 0] (endK (f60_E k c59 c60v1 c82 c82v1) Try.f60 [2000000, 2000001] f60_un retF))) (S := Int × (List PV)) (fun s => f60_hw4_0 p63 s.1 s.2) (f60_w4B k c59 c60v1 c82 c82v1 (fun y0 => retF y0) p63) (fun NX s => by
    exact Eq.mp (by kernel_rfl) (f60_w4b0_eq k c59 c60v1 c82 c82v1 retF NX p63 s.1 s.2)) k (n68, l69))

noncomputable def f60_cw5 : Code := subC f60_code [1, 1, 1, 1, 0, 1, 0, 0]
noncomputable def f60_hw5_0 (p81 : PV) (n86 : Int) (l87 : List PV) : St := ⟨[.ptr 2000000 [], .dead, .dead, .dead, .dead, .str [], .dead, .dead, .dead, .dead, .dead, .dead, .dead, .dead, .dead, .dead, .dead, .dead, .dead, .dead, .dead, .dead, .dead, .dead, .dead, .dead, .dead, .dead, .dead, .dead, .dead, .dead, .dead, .dead, .dead, .dead, .dead, .dead, .dead, .dead, .dead, .dead, .dead, .dead, .dead, .dead, .dead, .dead, .dead, .val 28 p81, .int .i64 (List.length (PV.els p81) : Int), .int .i64 n86, .dead, .dead, .dead, .dead, .dead, .dead, .dead, .dead, .dead, .dead, .dead, .dead, .dead, .dead, .dead], [(2000000, .box 76 (.agg 76 [.ptr 2000000 [], .own 43 2000001])), (2000001, .row 5 l87)]⟩
noncomputable def f60_w5A (k : Nat) (c59 : PV → (PV → R) → R) (c60v1 : PV → (List PV) → ((List PV) → R) → R) (c82 : (List Int) → PV → (List PV) → (Int → PV → (List PV) → R) → R) (c82v1 : (List Int) → (List PV) → (Int → PV → (List PV) → R) → R) (retF : (List PV) → R) (p81 : PV) (n86 : Int) (l87 : List PV) : R := loopM (f60_E k c59 c60v1 c82 c82v1) f60_cw5 (kont (f60_E k c59 c60v1 c82 c82v1) f60_code [1, 1, 1, 1, 0, 1, 0] (endK (f60_E k c59 c60v1 c82 c82v1) Try.f60 [2000000, 2000001] f60_un retF)) k (f60_hw5_0 p81 n86 l87)
noncomputable def f60_w5b0 (c59 : PV → (PV → R) → R) (c60v1 : PV → (List PV) → ((List PV) → R) → R) (c82 : (List Int) → PV → (List PV) → (Int → PV → (List PV) → R) → R) (c82v1 : (List Int) → (List PV) → (Int → PV → (List PV) → R) → R) (ret0 : (List PV) → R) (next_w5_0 : Int → (List PV) → R) (p81 : PV) (n86 : Int) (l87 : List PV) : R :=
  bif (decide (n86 < (List.length (PV.els p81) : Int))) then
    bif (true && decide ((0 : Int) ≤ n86) && decide (n86 < (List.length (PV.els p81) : Int))) then
      bif (decide ((0 : Int) < n86)) then
        c82v1 [44] l87 fun n88 p89 l90 =>
        c60v1 (List.getD (PV.els p81) (n86).toNat PV.nil) l90 fun l91 =>
        next_w5_0 (IntKind.wrap .i64 (n86 + (1 : Int))) l91
      else c60v1 (List.getD (PV.els p81) (n86).toNat PV.nil) l87 fun l92 =>
      next_w5_0 (IntKind.wrap .i64 (n86 + (1 : Int))) l92
    else none
  else c82v1 [] l87 fun n93 p94 l95 =>
  ret0 l95

theorem f60_w5b0_mem (k : Nat) (c59 : PV → (PV → R) → R) (c60v1 : PV → (List PV) → ((List PV) → R) → R) (c82 : (List Int) → PV → (List PV) → (Int → PV → (List PV) → R) → R) (c82v1 : (List Int) → (List PV) → (Int → PV → (List PV) → R) → R) (retF : (List PV) → R) (NX_w5 : St → R) (p81 : PV) (n86 : Int) (l87 : List PV) : exec (f60_E k c59 c60v1 c82 c82v1) f60_cw5 (purgeK (f60_E k c59 c60v1 c82 c82v1) f60_cw5 (loopK NX_w5 (kont (f60_E k c59 c60v1 c82 c82v1) f60_code [1, 1, 1, 1, 0, 1, 0] (endK (f60_E k c59 c60v1 c82 c82v1) Try.f60 [2000000, 2000001] f60_un retF)))) (f60_hw5_0 p81 n86 l87) = f60_w5b0 c59 c60v1 c82 c82v1 (fun y0 => retF y0) (fun n86 l87 => NX_w5 (f60_hw5_0 p81 n86 l87)) p81 n86 l87 := by kernel_rfl

noncomputable def f60_w5b0N (k : Nat) (c59 : PV → (PV → R) → R) (c60v1 : PV → (List PV) → ((List PV) → R) → R) (c82 : (List Int) → PV → (List PV) → (Int → PV → (List PV) → R) → R) (c82v1 : (List Int) → (List PV) → (Int → PV → (List PV) → R) → R) (ret0 : (List PV) → R) (next_w5_0 : Int → (List PV) → R) (p81 : PV) (n86 : Int) (l87 : List PV) : R :=
  f60_w5b0 c59 c60v1 c82 c82v1 ret0 next_w5_0 p81 n86 l87
theorem f60_w5b0_eq (k : Nat) (c59 : PV → (PV → R) → R) (c60v1 : PV → (List PV) → ((List PV) → R) → R) (c82 : (List Int) → PV → (List PV) → (Int → PV → (List PV) → R) → R) (c82v1 : (List Int) → (List PV) → (Int → PV → (List PV) → R) → R) (retF : (List PV) → R) (NX_w5 : St → R) (p81 : PV) (n86 : Int) (l87 : List PV) : exec (f60_E k c59 c60v1 c82 c82v1) f60_cw5 (purgeK (f60_E k c59 c60v1 c82 c82v1) f60_cw5 (loopK NX_w5 (kont (f60_E k c59 c60v1 c82 c82v1) f60_code [1, 1, 1, 1, 0, 1, 0] (endK (f60_E k c59 c60v1 c82 c82v1) Try.f60 [2000000, 2000001] f60_un retF)))) (f60_hw5_0 p81 n86 l87) = f60_w5b0N k c59 c60v1 c82 c82v1 (fun y0 => retF y0) (fun n86 l87 => NX_w5 (f60_hw5_0 p81 n86 l87)) p81 n86 l87 :=
  (f60_w5b0_mem k c59 c60v1 c82 c82v1 retF NX_w5 p81 n86 l87)

noncomputable def f60_w5B (k : Nat) (c59 : PV → (PV → R) → R) (c60v1 : PV → (List PV) → ((List PV) → R) → R) (c82 : (List Int) → PV → (List PV) → (Int → PV → (List PV) → R) → R) (c82v1 : (List Int) → (List PV) → (Int → PV → (List PV) → R) → R) (ret0 : (List PV) → R) (p81 : PV) (nx : Int × (List PV) → R) : Int × (List PV) → R := (fun s => f60_w5b0N k c59 c60v1 c82 c82v1 ret0 (fun n86 l87 => nx (n86, l87)) p81 s.1 s.2)
noncomputable def f60_w5N (k : Nat) (c59 : PV → (PV → R) → R) (c60v1 : PV → (List PV) → ((List PV) → R) → R) (c82 : (List Int) → PV → (List PV) → (Int → PV → (List PV) → R) → R) (c82v1 : (List Int) → (List PV) → (Int → PV → (List PV) → R) → R) (ret0 : (List PV) → R) (p81 : PV) (n86 : Int) (l87 : List PV) : R := loopR (f60_w5B k c59 c60v1 c82 c82v1 ret0 p81) k (n86, l87)
theorem f60_w5_eq (k : Nat) (c59 : PV → (PV → R) → R) (c60v1 : PV → (List PV) → ((List PV) → R) → R) (c82 : (List Int) → PV → (List PV) → (Int → PV → (List PV) → R) → R) (c82v1 : (List Int) → (List PV) → (Int → PV → (List PV) → R) → R) (retF : (List PV) → R) (p81 : PV) (n86 : Int) (l87 : List PV) : f60_w5A k c59 c60v1 c82 c82v1 retF p81 n86 l87 = f60_w5N k c59 c60v1 c82 c82v1 (fun y0 => retF y0) p81 n86 l87 :=
  Eq.mp (by kernel_rfl) (loop_sim (E := (f60_E k c59 c60v1 c82 c82v1)) (c := f60_cw5) (K := (kont (f60_E k c59 c60v1 c82 c82v1) f60_code [1, 1, 1, 1, 0, 1, 0] (endK (f60_E k c59 c60v1 c82 c82v1) Try.f60 [2000000, 2000001] f60_un retF))) (S := Int × (List PV)) (fun s => f60_hw5_0 p81 s.1 s.2) (f60_w5B k c59 c60v1 c82 c82v1 (fun y0 => retF y0) p81) (fun NX s => by
    exact Eq.mp (by kernel_rfl) (f60_w5b0_eq k c59 c60v1 c82 c82v1 retF NX p81 s.1 s.2)) k (n86, l87))

noncomputable def f60_cw6 : Code := subC f60_code [1, 1, 1, 1, 0, 1, 0, 0]
noncomputable def f60_hw6_0 (p99 : PV) (n104 : Int) (l105 : List PV) : St := ⟨[.ptr 2000000 [], .dead, .dead, .dead, .dead, .str [], .dead, .dead, .dead, .dead, .dead, .dead, .dead, .dead, .dead, .dead, .dead, .dead, .dead, .dead, .dead, .dead, .dead, .dead, .dead, .dead, .dead, .dead, .dead, .dead, .dead, .dead, .dead, .dead, .dead, .dead, .dead, .dead, .dead, .dead, .dead, .dead, .dead, .dead, .dead, .dead, .dead, .dead, .dead, .val 28 p99, .int .i64 (List.length (PV.els p99) : Int), .int .i64 n104, .dead, .dead, .dead, .dead, .dead, .dead, .dead, .dead, .dead, .dead, .dead, .dead, .dead, .dead, .dead], [(2000000, .box 76 (.agg 76 [.ptr 2000000 [], .own 43 2000001])), (2000001, .row 5 l105)]⟩
noncomputable def f60_w6A (k : Nat) (c59 : PV → (PV → R) → R) (c60v1 : PV → (List PV) → ((List PV) → R) → R) (c82 : (List Int) → PV → (List PV) → (Int → PV → (List PV) → R) → R) (c82v1 : (List Int) → (List PV) → (Int → PV → (List PV) → R) → R) (retF : (List PV) → R) (p99 : PV) (n104 : Int) (l105 : List PV) : R := loopM (f60_E k c59 c60v1 c82 c82v1) f60_cw6 (kont (f60_E k c59 c60v1 c82 c82v1) f60_code [1, 1, 1, 1, 0, 1, 0] (endK (f60_E k c59 c60v1 c82 c82v1) Try.f60 [2000000, 2000001] f60_un retF)) k (f60_hw6_0 p99 n104 l105)
noncomputable def f60_w6b0 (c59 : PV → (PV → R) → R) (c60v1 : PV → (List PV) → ((List PV) → R) → R) (c82 : (List Int) → PV → (List PV) → (Int → PV → (List PV) → R) → R) (c82v1 : (List Int) → (List PV) → (Int → PV → (List PV) → R) → R) (ret0 : (List PV) → R) (next_w6_0 : Int → (List PV) → R) (p99 : PV) (n104 : Int) (l105 : List PV) : R :=
  bif (decide (n104 < (List.length (PV.els p99) : Int))) then
    bif (true && decide ((0 : Int) ≤ n104) && decide (n104 < (List.length (PV.els p99) : Int))) then
      bif (decide ((0 : Int) < n104)) then
        c82v1 [44] l105 fun n106 p107 l108 =>
        c60v1 (List.getD (PV.els p99) (n104).toNat PV.nil) l108 fun l109 =>
        next_w6_0 (IntKind.wrap .i64 (n104 + (1 : Int))) l109
      else c60v1 (List.getD (PV.els p99) (n104).toNat PV.nil) l105 fun l110 =>
      next_w6_0 (IntKind.wrap .i64 (n104 + (1 : Int))) l110
    else none
  else c82v1 [] l105 fun n111 p112 l113 =>
  ret0 l113

theorem f60_w6b0_mem (k : Nat) (c59 : PV → (PV → R) → R) (c60v1 : PV → (List PV) → ((List PV) → R) → R) (c82 : (List Int) → PV → (List PV) → (Int → PV → (List PV) → R) → R) (c82v1 : (List Int) → (List PV) → (Int → PV → (List PV) → R) → R) (retF : (List PV) → R) (NX_w6 : St → R) (p99 : PV) (n104 : Int) (l105 : List PV) : exec (f60_E k c59 c60v1 c82 c82v1) f60_cw6 (purgeK (f60_E k c59 c60v1 c82 c82v1) f60_cw6 (loopK NX_w6 (kont (f60_E k c59 c60v1 c82 c82v1) f60_code [1, 1, 1, 1, 0, 1, 0] (endK (f60_E k c59 c60v1 c82 c82v1) Try.f60 [2000000, 2000001] f60_un retF)))) (f60_hw6_0 p99 n104 l105) = f60_w6b0 c59 c60v1 c82 c82v1 (fun y0 => retF y0) (fun n104 l105 => NX_w6 (f60_hw6_0 p99 n104 l105)) p99 n104 l105 := by kernel_rfl

noncomputable def f60_w6b0N (k : Nat) (c59 : PV → (PV → R) → R) (c60v1 : PV → (List PV) → ((List PV) → R) → R) (c82 : (List Int) → PV → (List PV) → (Int → PV → (List PV) → R) → R) (c82v1 : (List Int) → (List PV) → (Int → PV → (List PV) → R) → R) (ret0 : (List PV) → R) (next_w6_0 : Int → (List PV) → R) (p99 : PV) (n104 : Int) (l105 : List PV) : R :=
  f60_w6b0 c59 c60v1 c82 c82v1 ret0 next_w6_0 p99 n104 l105
theorem f60_w6b0_eq (k : Nat) (c59 : PV → (PV → R) → R) (c60v1 : PV → (List PV) → ((List PV) → R) → R) (c82 : (List Int) → PV → (List PV) → (Int → PV → (List PV) → R) → R) (c82v1 : (List Int) → (List PV) → (Int → PV → (List PV) → R) → R) (retF : (List PV) → R) (NX_w6 : St → R) (p99 : PV) (n104 : Int) (l105 : List PV) : exec (f60_E k c59 c60v1 c82 c82v1) f60_cw6 (purgeK (f60_E k c59 c60v1 c82 c82v1) f60_cw6 (loopK NX_w6 (kont (f60_E k c59 c60v1 c82 c82v1) f60_code [1, 1, 1, 1, 0, 1, 0] (endK (f60_E k c59 c60v1 c82 c82v1) Try.f60 [2000000, 2000001] f60_un retF)))) (f60_hw6_0 p99 n104 l105) = f60_w6b0N k c59 c60v1 c82 c82v1 (fun y0 => retF y0) (fun n104 l105 => NX_w6 (f60_hw6_0 p99 n104 l105)) p99 n104 l105 :=
  (f60_w6b0_mem k c59 c60v1 c82 c82v1 retF NX_w6 p99 n104 l105)

noncomputable def f60_w6B (k : Nat) (c59 : PV → (PV → R) → R) (c60v1 : PV → (List PV) → ((List PV) → R) → R) (c82 : (List Int) → PV → (List PV) → (Int → PV → (List PV) → R) → R) (c82v1 : (List Int) → (List PV) → (Int → PV → (List PV) → R) → R) (ret0 : (List PV) → R) (p99 : PV) (nx : Int × (List PV) → R) : Int × (List PV) → R := (fun s => f60_w6b0N k c59 c60v1 c82 c82v1 ret0 (fun n104 l105 => nx (n104, l105)) p99 s.1 s.2)
noncomputable def f60_w6N (k : Nat) (c59 : PV → (PV → R) → R) (c60v1 : PV → (List PV) → ((List PV) → R) → R) (c82 : (List Int) → PV → (List PV) → (Int → PV → (List PV) → R) → R) (c82v1 : (List Int) → (List PV) → (Int → PV → (List PV) → R) → R) (ret0 : (List PV) → R) (p99 : PV) (n104 : Int) (l105 : List PV) : R := loopR (f60_w6B k c59 c60v1 c82 c82v1 ret0 p99) k (n104, l105)
theorem f60_w6_eq (k : Nat) (c59 : PV → (PV → R) → R) (c60v1 : PV → (List PV) → ((List PV) → R) → R) (c82 : (List Int) → PV → (List PV) → (Int → PV → (List PV) → R) → R) (c82v1 : (List Int) → (List PV) → (Int → PV → (List PV) → R) → R) (retF : (List PV) → R) (p99 : PV) (n104 : Int) (l105 : List PV) : f60_w6A k c59 c60v1 c82 c82v1 retF p99 n104 l105 = f60_w6N k c59 c60v1 c82 c82v1 (fun y0 => retF y0) p99 n104 l105 :=
  Eq.mp (by kernel_rfl) (loop_sim (E := (f60_E k c59 c60v1 c82 c82v1)) (c := f60_cw6) (K := (kont (f60_E k c59 c60v1 c82 c82v1) f60_code [1, 1, 1, 1, 0, 1, 0] (endK (f60_E k c59 c60v1 c82 c82v1) Try.f60 [2000000, 2000001] f60_un retF))) (S := Int × (List PV)) (fun s => f60_hw6_0 p99 s.1 s.2) (f60_w6B k c59 c60v1 c82 c82v1 (fun y0 => retF y0) p99) (fun NX s => by
    exact Eq.mp (by kernel_rfl) (f60_w6b0_eq k c59 c60v1 c82 c82v1 retF NX p99 s.1 s.2)) k (n104, l105))

noncomputable def f60_cw7 : Code := subC f60_code [1, 1, 1, 1, 0, 1, 0, 0]
noncomputable def f60_hw7_0 (p117 : PV) (n122 : Int) (l123 : List PV) : St := ⟨[.ptr 2000000 [], .dead, .dead, .dead, .dead, .str [93], .dead, .dead, .dead, .dead, .dead, .dead, .dead, .dead, .dead, .dead, .dead, .dead, .dead, .dead, .dead, .dead, .dead, .dead, .dead, .dead, .dead, .dead, .dead, .dead, .dead, .dead, .dead, .dead, .dead, .dead, .dead, .dead, .dead, .dead, .dead, .dead, .dead, .dead, .dead, .dead, .dead, .dead, .dead, .val 28 p117, .int .i64 (List.length (PV.els p117) : Int), .int .i64 n122, .dead, .dead, .dead, .dead, .dead, .dead, .dead, .dead, .dead, .dead, .dead, .dead, .dead, .dead, .dead], [(2000000, .box 76 (.agg 76 [.ptr 2000000 [], .own 43 2000001])), (2000001, .row 5 l123)]⟩
noncomputable def f60_w7A (k : Nat) (c59 : PV → (PV → R) → R) (c60v1 : PV → (List PV) → ((List PV) → R) → R) (c82 : (List Int) → PV → (List PV) → (Int → PV → (List PV) → R) → R) (c82v1 : (List Int) → (List PV) → (Int → PV → (List PV) → R) → R) (retF : (List PV) → R) (p117 : PV) (n122 : Int) (l123 : List PV) : R := loopM (f60_E k c59 c60v1 c82 c82v1) f60_cw7 (kont (f60_E k c59 c60v1 c82 c82v1) f60_code [1, 1, 1, 1, 0, 1, 0] (endK (f60_E k c59 c60v1 c82 c82v1) Try.f60 [2000000, 2000001] f60_un retF)) k (f60_hw7_0 p117 n122 l123)
noncomputable def f60_w7b0 (c59 : PV → (PV → R) → R) (c60v1 : PV → (List PV) → ((List PV) → R) → R) (c82 : (List Int) → PV → (List PV) → (Int → PV → (List PV) → R) → R) (c82v1 : (List Int) → (List PV) → (Int → PV → (List PV) → R) → R) (ret0 : (List PV) → R) (next_w7_0 : Int → (List PV) → R) (p117 : PV) (n122 : Int) (l123 : List PV) : R :=
  bif (decide (n122 < (List.length (PV.els p117) : Int))) then
    bif (true && decide ((0 : Int) ≤ n122) && decide (n122 < (List.length (PV.els p117) : Int))) then
      bif (decide ((0 : Int) < n122)) then
        c82v1 [44] l123 fun n124 p125 l126 =>
        c60v1 (List.getD (PV.els p117) (n122).toNat PV.nil) l126 fun l127 =>
        next_w7_0 (IntKind.wrap .i64 (n122 + (1 : Int))) l127
      else c60v1 (List.getD (PV.els p117) (n122).toNat PV.nil) l123 fun l128 =>
      next_w7_0 (IntKind.wrap .i64 (n122 + (1 : Int))) l128
    else none
  else c82v1 [93] l123 fun n129 p130 l131 =>
  ret0 l131

theorem f60_w7b0_mem (k : Nat) (c59 : PV → (PV → R) → R) (c60v1 : PV → (List PV) → ((List PV) → R) → R) (c82 : (List Int) → PV → (List PV) → (Int → PV → (List PV) → R) → R) (c82v1 : (List Int) → (List PV) → (Int → PV → (List PV) → R) → R) (retF : (List PV) → R) (NX_w7 : St → R) (p117 : PV) (n122 : Int) (l123 : List PV) : exec (f60_E k c59 c60v1 c82 c82v1) f60_cw7 (purgeK (f60_E k c59 c60v1 c82 c82v1) f60_cw7 (loopK NX_w7 (kont (f60_E k c59 c60v1 c82 c82v1) f60_code [1, 1, 1, 1, 0, 1, 0] (endK (f60_E k c59 c60v1 c82 c82v1) Try.f60 [2000000, 2000001] f60_un retF)))) (f60_hw7_0 p117 n122 l123) = f60_w7b0 c59 c60v1 c82 c82v1 (fun y0 => retF y0) (fun n122 l123 => NX_w7 (f60_hw7_0 p117 n122 l123)) p117 n122 l123 := by kernel_rfl

noncomputable def f60_w7b0N (k : Nat) (c59 : PV → (PV → R) → R) (c60v1 : PV → (List PV) → ((List PV) → R) → R) (c82 : (List Int) → PV → (List PV) → (Int → PV → (List PV) → R) → R) (c82v1 : (List Int) → (List PV) → (Int → PV → (List PV) → R) → R) (ret0 : (List PV) → R) (next_w7_0 : Int → (List PV) → R) (p117 : PV) (n122 : Int) (l123 : List PV) : R :=
  f60_w7b0 c59 c60v1 c82 c82v1 ret0 next_w7_0 p117 n122 l123
theorem f60_w7b0_eq (k : Nat) (c59 : PV → (PV → R) → R) (c60v1 : PV → (List PV) → ((List PV) → R) → R) (c82 : (List Int) → PV → (List PV) → (Int → PV → (List PV) → R) → R) (c82v1 : (List Int) → (List PV) → (Int → PV → (List PV) → R) → R) (retF : (List PV) → R) (NX_w7 : St → R) (p117 : PV) (n122 : Int) (l123 : List PV) : exec (f60_E k c59 c60v1 c82 c82v1) f60_cw7 (purgeK (f60_E k c59 c60v1 c82 c82v1) f60_cw7 (loopK NX_w7 (kont (f60_E k c59 c60v1 c82 c82v1) f60_code [1, 1, 1, 1, 0, 1, 0] (endK (f60_E k c59 c60v1 c82 c82v1) Try.f60 [2000000, 2000001] f60_un retF)))) (f60_hw7_0 p117 n122 l123) = f60_w7b0N k c59 c60v1 c82 c82v1 (fun y0 => retF y0) (fun n122 l123 => NX_w7 (f60_hw7_0 p117 n122 l123)) p117 n122 l123 :=
  (f60_w7b0_mem k c59 c60v1 c82 c82v1 retF NX_w7 p117 n122 l123)

noncomputable def f60_w7B (k : Nat) (c59 : PV → (PV → R) → R) (c60v1 : PV → (List PV) → ((List PV) → R) → R) (c82 : (List Int) → PV → (List PV) → (Int → PV → (List PV) → R) → R) (c82v1 : (List Int) → (List PV) → (Int → PV → (List PV) → R) → R) (ret0 : (List PV) → R) (p117 : PV) (nx : Int × (List PV) → R) : Int × (List PV) → R := (fun s => f60_w7b0N k c59 c60v1 c82 c82v1 ret0 (fun n122 l123 => nx (n122, l123)) p117 s.1 s.2)
noncomputable def f60_w7N (k : Nat) (c59 : PV → (PV → R) → R) (c60v1 : PV → (List PV) → ((List PV) → R) → R) (c82 : (List Int) → PV → (List PV) → (Int → PV → (List PV) → R) → R) (c82v1 : (List Int) → (List PV) → (Int → PV → (List PV) → R) → R) (ret0 : (List PV) → R) (p117 : PV) (n122 : Int) (l123 : List PV) : R := loopR (f60_w7B k c59 c60v1 c82 c82v1 ret0 p117) k (n122, l123)
theorem f60_w7_eq (k : Nat) (c59 : PV → (PV → R) → R) (c60v1 : PV → (List PV) → ((List PV) → R) → R) (c82 : (List Int) → PV → (List PV) → (Int → PV → (List PV) → R) → R) (c82v1 : (List Int) → (List PV) → (Int → PV → (List PV) → R) → R) (retF : (List PV) → R) (p117 : PV) (n122 : Int) (l123 : List PV) : f60_w7A k c59 c60v1 c82 c82v1 retF p117 n122 l123 = f60_w7N k c59 c60v1 c82 c82v1 (fun y0 => retF y0) p117 n122 l123 :=
  Eq.mp (by kernel_rfl) (loop_sim (E := (f60_E k c59 c60v1 c82 c82v1)) (c := f60_cw7) (K := (kont (f60_E k c59 c60v1 c82 c82v1) f60_code [1, 1, 1, 1, 0, 1, 0] (endK (f60_E k c59 c60v1 c82 c82v1) Try.f60 [2000000, 2000001] f60_un retF))) (S := Int × (List PV)) (fun s => f60_hw7_0 p117 s.1 s.2) (f60_w7B k c59 c60v1 c82 c82v1 (fun y0 => retF y0) p117) (fun NX s => by
    exact Eq.mp (by kernel_rfl) (f60_w7b0_eq k c59 c60v1 c82 c82v1 retF NX p117 s.1 s.2)) k (n122, l123))

noncomputable def f60_cw8 : Code := subC f60_code [1, 1, 1, 1, 0, 1, 0, 0]
noncomputable def f60_hw8_0 (p135 : PV) (n140 : Int) (l141 : List PV) : St := ⟨[.ptr 2000000 [], .dead, .dead, .dead, .dead, .str [62], .dead, .dead, .dead, .dead, .dead, .dead, .dead, .dead, .dead, .dead, .dead, .dead, .dead, .dead, .dead, .dead, .dead, .dead, .dead, .dead, .dead, .dead, .dead, .dead, .dead, .dead, .dead, .dead, .dead, .dead, .dead, .dead, .dead, .dead, .dead, .dead, .dead, .dead, .dead, .dead, .dead, .dead, .dead, .val 28 p135, .int .i64 (List.length (PV.els p135) : Int), .int .i64 n140, .dead, .dead, .dead, .dead, .dead, .dead, .dead, .dead, .dead, .dead, .dead, .dead, .dead, .dead, .dead], [(2000000, .box 76 (.agg 76 [.ptr 2000000 [], .own 43 2000001])), (2000001, .row 5 l141)]⟩
noncomputable def f60_w8A (k : Nat) (c59 : PV → (PV → R) → R) (c60v1 : PV → (List PV) → ((List PV) → R) → R) (c82 : (List Int) → PV → (List PV) → (Int → PV → (List PV) → R) → R) (c82v1 : (List Int) → (List PV) → (Int → PV → (List PV) → R) → R) (retF : (List PV) → R) (p135 : PV) (n140 : Int) (l141 : List PV) : R := loopM (f60_E k c59 c60v1 c82 c82v1) f60_cw8 (kont (f60_E k c59 c60v1 c82 c82v1) f60_code [1, 1, 1, 1, 0, 1, 0] (endK (f60_E k c59 c60v1 c82 c82v1) Try.f60 [2000000, 2000001] f60_un retF)) k (f60_hw8_0 p135 n140 l141)
noncomputable def f60_w8b0 (c59 : PV → (PV → R) → R) (c60v1 : PV → (List PV) → ((List PV) → R) → R) (c82 : (List Int) → PV → (List PV) → (Int → PV → (List PV) → R) → R) (c82v1 : (List Int) → (List PV) → (Int → PV → (List PV) → R) → R) (ret0 : (List PV) → R) (next_w8_0 : Int → (List PV) → R) (p135 : PV) (n140 : Int) (l141 : List PV) : R :=
  bif (decide (n140 < (List.length (PV.els p135) : Int))) then
    bif (true && decide ((0 : Int) ≤ n140) && decide (n140 < (List.length (PV.els p135) : Int))) then
      bif (decide ((0 : Int) < n140)) then
        c82v1 [44] l141 fun n142 p143 l144 =>
        c60v1 (List.getD (PV.els p135) (n140).toNat PV.nil) l144 fun l145 =>
        next_w8_0 (IntKind.wrap .i64 (n140 + (1 : Int))) l145
      else c60v1 (List.getD (PV.els p135) (n140).toNat PV.nil) l141 fun l146 =>
      next_w8_0 (IntKind.wrap .i64 (n140 + (1 : Int))) l146
    else none
  else c82v1 [62] l141 fun n147 p148 l149 =>
  ret0 l149

theorem f60_w8b0_mem (k : Nat) (c59 : PV → (PV → R) → R) (c60v1 : PV → (List PV) → ((List PV) → R) → R) (c82 : (List Int) → PV → (List PV) → (Int → PV → (List PV) → R) → R) (c82v1 : (List Int) → (List PV) → (Int → PV → (List PV) → R) → R) (retF : (List PV) → R) (NX_w8 : St → R) (p135 : PV) (n140 : Int) (l141 : List PV) : exec (f60_E k c59 c60v1 c82 c82v1) f60_cw8 (purgeK (f60_E k c59 c60v1 c82 c82v1) f60_cw8 (loopK NX_w8 (kont (f60_E k c59 c60v1 c82 c82v1) f60_code [1, 1, 1, 1, 0, 1, 0] (endK (f60_E k c59 c60v1 c82 c82v1) Try.f60 [2000000, 2000001] f60_un retF)))) (f60_hw8_0 p135 n140 l141) = f60_w8b0 c59 c60v1 c82 c82v1 (fun y0 => retF y0) (fun n140 l141 => NX_w8 (f60_hw8_0 p135 n140 l141)) p135 n140 l141 := by kernel_rfl

noncomputable def f60_w8b0N (k : Nat) (c59 : PV → (PV → R) → R) (c60v1 : PV → (List PV) → ((List PV) → R) → R) (c82 : (List Int) → PV → (List PV) → (Int → PV → (List PV) → R) → R) (c82v1 : (List Int) → (List PV) → (Int → PV → (List PV) → R) → R) (ret0 : (List PV) → R) (next_w8_0 : Int → (List PV) → R) (p135 : PV) (n140 : Int) (l141 : List PV) : R :=
  f60_w8b0 c59 c60v1 c82 c82v1 ret0 next_w8_0 p135 n140 l141
theorem f60_w8b0_eq (k : Nat) (c59 : PV → (PV → R) → R) (c60v1 : PV → (List PV) → ((List PV) → R) → R) (c82 : (List Int) → PV → (List PV) → (Int → PV → (List PV) → R) → R) (c82v1 : (List Int) → (List PV) → (Int → PV → (List PV) → R) → R) (retF : (List PV) → R) (NX_w8 : St → R) (p135 : PV) (n140 : Int) (l141 : List PV) : exec (f60_E k c59 c60v1 c82 c82v1) f60_cw8 (purgeK (f60_E k c59 c60v1 c82 c82v1) f60_cw8 (loopK NX_w8 (kont (f60_E k c59 c60v1 c82 c82v1) f60_code [1, 1, 1, 1, 0, 1, 0] (endK (f60_E k c59 c60v1 c82 c82v1) Try.f60 [2000000, 2000001] f60_un retF)))) (f60_hw8_0 p135 n140 l141) = f60_w8b0N k c59 c60v1 c82 c82v1 (fun y0 => retF y0) (fun n140 l141 => NX_w8 (f60_hw8_0 p135 n140 l141)) p135 n140 l141 :=
  (f60_w8b0_mem k c59 c60v1 c82 c82v1 retF NX_w8 p135 n140 l141)

noncomputable def f60_w8B (k : Nat) (c59 : PV → (PV → R) → R) (c60v1 : PV → (List PV) → ((List PV) → R) → R) (c82 : (List Int) → PV → (List PV) → (Int → PV → (List PV) → R) → R) (c82v1 : (List Int) → (List PV) → (Int → PV → (List PV) → R) → R) (ret0 : (List PV) → R) (p135 : PV) (nx : Int × (List PV) → R) : Int × (List PV) → R := (fun s => f60_w8b0N k c59 c60v1 c82 c82v1 ret0 (fun n140 l141 => nx (n140, l141)) p135 s.1 s.2)
noncomputable def f60_w8N (k : Nat) (c59 : PV → (PV → R) → R) (c60v1 : PV → (List PV) → ((List PV) → R) → R) (c82 : (List Int) → PV → (List PV) → (Int → PV → (List PV) → R) → R) (c82v1 : (List Int) → (List PV) → (Int → PV → (List PV) → R) → R) (ret0 : (List PV) → R) (p135 : PV) (n140 : Int) (l141 : List PV) : R := loopR (f60_w8B k c59 c60v1 c82 c82v1 ret0 p135) k (n140, l141)
theorem f60_w8_eq (k : Nat) (c59 : PV → (PV → R) → R) (c60v1 : PV → (List PV) → ((List PV) → R) → R) (c82 : (List Int) → PV → (List PV) → (Int → PV → (List PV) → R) → R) (c82v1 : (List Int) → (List PV) → (Int → PV → (List PV) → R) → R) (retF : (List PV) → R) (p135 : PV) (n140 : Int) (l141 : List PV) : f60_w8A k c59 c60v1 c82 c82v1 retF p135 n140 l141 = f60_w8N k c59 c60v1 c82 c82v1 (fun y0 => retF y0) p135 n140 l141 :=
  Eq.mp (by kernel_rfl) (loop_sim (E := (f60_E k c59 c60v1 c82 c82v1)) (c := f60_cw8) (K := (kont (f60_E k c59 c60v1 c82 c82v1) f60_code [1, 1, 1, 1, 0, 1, 0] (endK (f60_E k c59 c60v1 c82 c82v1) Try.f60 [2000000, 2000001] f60_un retF))) (S := Int × (List PV)) (fun s => f60_hw8_0 p135 s.1 s.2) (f60_w8B k c59 c60v1 c82 c82v1 (fun y0 => retF y0) p135) (fun NX s => by
    exact Eq.mp (by kernel_rfl) (f60_w8b0_eq k c59 c60v1 c82 c82v1 retF NX p135 s.1 s.2)) k (n140, l141))

noncomputable def f60_cw9 : Code := subC f60_code [1, 1, 1, 1, 0, 1, 0, 0]
noncomputable def f60_hw9_0 (p153 : PV) (n158 : Int) (l159 : List PV) : St := ⟨[.ptr 2000000 [], .dead, .dead, .dead, .dead, .str [], .dead, .dead, .dead, .dead, .dead, .dead, .dead, .dead, .dead, .dead, .dead, .dead, .dead, .dead, .dead, .dead, .dead, .dead, .dead, .dead, .dead, .dead, .dead, .dead, .dead, .dead, .dead, .dead, .dead, .dead, .dead, .dead, .dead, .dead, .dead, .dead, .dead, .dead, .dead, .dead, .dead, .dead, .dead, .val 28 p153, .int .i64 (List.length (PV.els p153) : Int), .int .i64 n158, .dead, .dead, .dead, .dead, .dead, .dead, .dead, .dead, .dead, .dead, .dead, .dead, .dead, .dead, .dead], [(2000000, .box 76 (.agg 76 [.ptr 2000000 [], .own 43 2000001])), (2000001, .row 5 l159)]⟩
noncomputable def f60_w9A (k : Nat) (c59 : PV → (PV → R) → R) (c60v1 : PV → (List PV) → ((List PV) → R) → R) (c82 : (List Int) → PV → (List PV) → (Int → PV → (List PV) → R) → R) (c82v1 : (List Int) → (List PV) → (Int → PV → (List PV) → R) → R) (retF : (List PV) → R) (p153 : PV) (n158 : Int) (l159 : List PV) : R := loopM (f60_E k c59 c60v1 c82 c82v1) f60_cw9 (kont (f60_E k c59 c60v1 c82 c82v1) f60_code [1, 1, 1, 1, 0, 1, 0] (endK (f60_E k c59 c60v1 c82 c82v1) Try.f60 [2000000, 2000001] f60_un retF)) k (f60_hw9_0 p153 n158 l159)
noncomputable def f60_w9b0 (c59 : PV → (PV → R) → R) (c60v1 : PV → (List PV) → ((List PV) → R) → R) (c82 : (List Int) → PV → (List PV) → (Int → PV → (List PV) → R) → R) (c82v1 : (List Int) → (List PV) → (Int → PV → (List PV) → R) → R) (ret0 : (List PV) → R) (next_w9_0 : Int → (List PV) → R) (p153 : PV) (n158 : Int) (l159 : List PV) : R :=
  bif (decide (n158 < (List.length (PV.els p153) : Int))) then
    bif (true && decide ((0 : Int) ≤ n158) && decide (n158 < (List.length (PV.els p153) : Int))) then
      bif (decide ((0 : Int) < n158)) then
        c82v1 [44] l159 fun n160 p161 l162 =>
        c60v1 (List.getD (PV.els p153) (n158).toNat PV.nil) l162 fun l163 =>
        next_w9_0 (IntKind.wrap .i64 (n158 + (1 : Int))) l163
      else c60v1 (List.getD (PV.els p153) (n158).toNat PV.nil) l159 fun l164 =>
      next_w9_0 (IntKind.wrap .i64 (n158 + (1 : Int))) l164
    else none
  else c82v1 [] l159 fun n165 p166 l167 =>
  ret0 l167

theorem f60_w9b0_mem (k : Nat) (c59 : PV → (PV → R) → R) (c60v1 : PV → (List PV) → ((List PV) → R) → R) (c82 : (List Int) → PV → (List PV) → (Int → PV → (List PV) → R) → R) (c82v1 : (List Int) → (List PV) → (Int → PV → (List PV) → R) → R) (retF : (List PV) → R) (NX_w9 : St → R) (p153 : PV) (n158 : Int) (l159 : List PV) : exec (f60_E k c59 c60v1 c82 c82v1) f60_cw9 (purgeK (f60_E k c59 c60v1 c82 c82v1) f60_cw9 (loopK NX_w9 (kont (f60_E k c59 c60v1 c82 c82v1) f60_code [1, 1, 1, 1, 0, 1, 0] (endK (f60_E k c59 c60v1 c82 c82v1) Try.f60 [2000000, 2000001] f60_un retF)))) (f60_hw9_0 p153 n158 l159) = f60_w9b0 c59 c60v1 c82 c82v1 (fun y0 => retF y0) (fun n158 l159 => NX_w9 (f60_hw9_0 p153 n158 l159)) p153 n158 l159 := by kernel_rfl

noncomputable def f60_w9b0N (k : Nat) (c59 : PV → (PV → R) → R) (c60v1 : PV → (List PV) → ((List PV) → R) → R) (c82 : (List Int) → PV → (List PV) → (Int → PV → (List PV) → R) → R) (c82v1 : (List Int) → (List PV) → (Int → PV → (List PV) → R) → R) (ret0 : (List PV) → R) (next_w9_0 : Int → (List PV) → R) (p153 : PV) (n158 : Int) (l159 : List PV) : R :=
  f60_w9b0 c59 c60v1 c82 c82v1 ret0 next_w9_0 p153 n158 l159
theorem f60_w9b0_eq (k : Nat) (c59 : PV → (PV → R) → R) (c60v1 : PV → (List PV) → ((List PV) → R) → R) (c82 : (List Int) → PV → (List PV) → (Int → PV → (List PV) → R) → R) (c82v1 : (List Int) → (List PV) → (Int → PV → (List PV) → R) → R) (retF : (List PV) → R) (NX_w9 : St → R) (p153 : PV) (n158 : Int) (l159 : List PV) : exec (f60_E k c59 c60v1 c82 c82v1) f60_cw9 (purgeK (f60_E k c59 c60v1 c82 c82v1) f60_cw9 (loopK NX_w9 (kont (f60_E k c59 c60v1 c82 c82v1) f60_code [1, 1, 1, 1, 0, 1, 0] (endK (f60_E k c59 c60v1 c82 c82v1) Try.f60 [2000000, 2000001] f60_un retF)))) (f60_hw9_0 p153 n158 l159) = f60_w9b0N k c59 c60v1 c82 c82v1 (fun y0 => retF y0) (fun n158 l159 => NX_w9 (f60_hw9_0 p153 n158 l159)) p153 n158 l159 :=
  (f60_w9b0_mem k c59 c60v1 c82 c82v1 retF NX_w9 p153 n158 l159)

noncomputable def f60_w9B (k : Nat) (c59 : PV → (PV → R) → R) (c60v1 : PV → (List PV) → ((List PV) → R) → R) (c82 : (List Int) → PV → (List PV) → (Int → PV → (List PV) → R) → R) (c82v1 : (List Int) → (List PV) → (Int → PV → (List PV) → R) → R) (ret0 : (List PV) → R) (p153 : PV) (nx : Int × (List PV) → R) : Int × (List PV) → R := (fun s => f60_w9b0N k c59 c60v1 c82 c82v1 ret0 (fun n158 l159 => nx (n158, l159)) p153 s.1 s.2)
noncomputable def f60_w9N (k : Nat) (c59 : PV → (PV → R) → R) (c60v1 : PV → (List PV) → ((List PV) → R) → R) (c82 : (List Int) → PV → (List PV) → (Int → PV → (List PV) → R) → R) (c82v1 : (List Int) → (List PV) → (Int → PV → (List PV) → R) → R) (ret0 : (List PV) → R) (p153 : PV) (n158 : Int) (l159 : List PV) : R := loopR (f60_w9B k c59 c60v1 c82 c82v1 ret0 p153) k (n158, l159)
theorem f60_w9_eq (k : Nat) (c59 : PV → (PV → R) → R) (c60v1 : PV → (List PV) → ((List PV) → R) → R) (c82 : (List Int) → PV → (List PV) → (Int → PV → (List PV) → R) → R) (c82v1 : (List Int) → (List PV) → (Int → PV → (List PV) → R) → R) (retF : (List PV) → R) (p153 : PV) (n158 : Int) (l159 : List PV) : f60_w9A k c59 c60v1 c82 c82v1 retF p153 n158 l159 = f60_w9N k c59 c60v1 c82 c82v1 (fun y0 => retF y0) p153 n158 l159 :=
  Eq.mp (by kernel_rfl) (loop_sim (E := (f60_E k c59 c60v1 c82 c82v1)) (c := f60_cw9) (K := (kont (f60_E k c59 c60v1 c82 c82v1) f60_code [1, 1, 1, 1, 0, 1, 0] (endK (f60_E k c59 c60v1 c82 c82v1) Try.f60 [2000000, 2000001] f60_un retF))) (S := Int × (List PV)) (fun s => f60_hw9_0 p153 s.1 s.2) (f60_w9B k c59 c60v1 c82 c82v1 (fun y0 => retF y0) p153) (fun NX s => by
    exact Eq.mp (by kernel_rfl) (f60_w9b0_eq k c59 c60v1 c82 c82v1 retF NX p153 s.1 s.2)) k (n158, l159))

noncomputable def f60_e (c59 : PV → (PV → R) → R) (c60v1 : PV → (List PV) → ((List PV) → R) → R) (c82 : (List Int) → PV → (List PV) → (Int → PV → (List PV) → R) → R) (c82v1 : (List Int) → (List PV) → (Int → PV → (List PV) → R) → R) (ret0 : (List PV) → R) (w1 : PV → Int → (List PV) → R) (w2 : PV → Int → (List PV) → R) (w3 : PV → Int → (List PV) → R) (w4 : PV → Int → (List PV) → R) (w5 : PV → Int → (List PV) → R) (w6 : PV → Int → (List PV) → R) (w7 : PV → Int → (List PV) → R) (w8 : PV → Int → (List PV) → R) (w9 : PV → Int → (List PV) → R) (p1 : PV) (p2 : PV) (l3 : List PV) : R :=
  bif (decide ((PV.num (PV.fld p1 0)) = (1 : Int))) then
    c82 [69] p2 l3 fun n4 p5 l6 =>
    c59 p1 fun p7 =>
    w1 p7 0 l6
  else bif (decide ((PV.num (PV.fld p1 0)) = (2 : Int))) then
    bif (decide ((0 : Int) ≤ (Int.fdiv (PV.num (PV.fld p1 1)) (2 ^ (min ((4 : Int)).toNat 8)))) && decide ((Int.fdiv (PV.num (PV.fld p1 1)) (2 ^ (min ((4 : Int)).toNat 8))) ≤ (IntKind.wrap .u8 ((Int.fdiv (PV.num (PV.fld p1 1)) (2 ^ (min ((4 : Int)).toNat 8))) + (1 : Int)))) && decide ((IntKind.wrap .u8 ((Int.fdiv (PV.num (PV.fld p1 1)) (2 ^ (min ((4 : Int)).toNat 8))) + (1 : Int))) ≤ (List.length [48, 49, 50, 51, 52, 53, 54, 55, 56, 57, 97, 98, 99, 100, 101, 102] : Int))) then
      let s22 : List Int := (List.drop ((Int.fdiv (PV.num (PV.fld p1 1)) (2 ^ (min ((4 : Int)).toNat 8)))).toNat (List.take ((IntKind.wrap .u8 ((Int.fdiv (PV.num (PV.fld p1 1)) (2 ^ (min ((4 : Int)).toNat 8))) + (1 : Int)))).toNat [48, 49, 50, 51, 52, 53, 54, 55, 56, 57, 97, 98, 99, 100, 101, 102]))
      bif (decide ((0 : Int) ≤ (intBit .and .u8 (PV.num (PV.fld p1 1)) 15)) && decide ((intBit .and .u8 (PV.num (PV.fld p1 1)) 15) ≤ (IntKind.wrap .u8 ((intBit .and .u8 (PV.num (PV.fld p1 1)) 15) + (1 : Int)))) && decide ((IntKind.wrap .u8 ((intBit .and .u8 (PV.num (PV.fld p1 1)) 15) + (1 : Int))) ≤ (List.length [48, 49, 50, 51, 52, 53, 54, 55, 56, 57, 97, 98, 99, 100, 101, 102] : Int))) then
        let s23 : List Int := (List.drop ((intBit .and .u8 (PV.num (PV.fld p1 1)) 15)).toNat (List.take ((IntKind.wrap .u8 ((intBit .and .u8 (PV.num (PV.fld p1 1)) 15) + (1 : Int)))).toNat [48, 49, 50, 51, 52, 53, 54, 55, 56, 57, 97, 98, 99, 100, 101, 102]))
        bif (decide (List.length s22 + List.length s23 ≤ 4611686018427387904)) then
          c82 (s22 ++ s23) p2 l3 fun n24 p25 l26 =>
          c59 p1 fun p27 =>
          w2 p27 0 l26
        else none
      else none
    else none
  else bif (decide ((PV.num (PV.fld p1 0)) = (3 : Int))) then
    bif (decide ((List.length (PV.els (PV.fld p1 2)) : Int) < (2 : Int))) then
      c82 [40] p2 l3 fun n42 p43 l44 =>
      c59 p1 fun p45 =>
      w3 p45 0 l44
    else c82 [40] p2 l3 fun n60 p61 l62 =>
    c59 p1 fun p63 =>
    w4 p63 0 l62
  else bif (decide ((PV.num (PV.fld p1 0)) = (4 : Int))) then
    c82 [76] p2 l3 fun n78 p79 l80 =>
    c59 p1 fun p81 =>
    w5 p81 0 l80
  else bif (decide ((PV.num (PV.fld p1 0)) = (5 : Int))) then
    c82 [82] p2 l3 fun n96 p97 l98 =>
    c59 p1 fun p99 =>
    w6 p99 0 l98
  else bif (decide ((PV.num (PV.fld p1 0)) = (6 : Int))) then
    c82 [91] p2 l3 fun n114 p115 l116 =>
    c59 p1 fun p117 =>
    w7 p117 0 l116
  else bif (decide ((PV.num (PV.fld p1 0)) = (7 : Int))) then
    c82 [60] p2 l3 fun n132 p133 l134 =>
    c59 p1 fun p135 =>
    w8 p135 0 l134
  else c82 [63] p2 l3 fun n150 p151 l152 =>
  c59 p1 fun p153 =>
  w9 p153 0 l152

theorem f60_e_mem (k : Nat) (c59 : PV → (PV → R) → R) (c60v1 : PV → (List PV) → ((List PV) → R) → R) (c82 : (List Int) → PV → (List PV) → (Int → PV → (List PV) → R) → R) (c82v1 : (List Int) → (List PV) → (Int → PV → (List PV) → R) → R) (retF : (List PV) → R) (p1 : PV) (p2 : PV) (l3 : List PV) : exec (f60_E k c59 c60v1 c82 c82v1) f60_code (endK (f60_E k c59 c60v1 c82 c82v1) Try.f60 [2000000, 2000001] f60_un retF) ⟨[.ptr 2000000 [], .val 30 p1, .undef, .undef, .undef, .undef, .undef, .undef, .undef, .undef, .undef, .undef, .undef, .undef, .undef, .undef, .undef, .undef, .undef, .undef, .undef, .undef, .undef, .undef, .undef, .undef, .undef, .undef, .undef, .undef, .undef, .undef, .undef, .undef, .undef, .undef, .undef, .undef, .undef, .undef, .undef, .undef, .undef, .undef, .undef, .undef, .undef, .undef, .undef, .undef, .undef, .undef, .undef, .undef, .undef, .undef, .undef, .undef, .undef, .undef, .undef, .undef, .undef, .undef, .undef, .undef, .undef], [(2000000, .box 76 (.agg 76 [.val 74 p2, .own 43 2000001])), (2000001, .row 5 l3)]⟩ = f60_e c59 c60v1 c82 c82v1 (fun y0 => retF y0) (fun p7 n12 l13 => f60_w1A k c59 c60v1 c82 c82v1 retF p7 n12 l13) (fun p27 n32 l33 => f60_w2A k c59 c60v1 c82 c82v1 retF p27 n32 l33) (fun p45 n50 l51 => f60_w3A k c59 c60v1 c82 c82v1 retF p45 n50 l51) (fun p63 n68 l69 => f60_w4A k c59 c60v1 c82 c82v1 retF p63 n68 l69) (fun p81 n86 l87 => f60_w5A k c59 c60v1 c82 c82v1 retF p81 n86 l87) (fun p99 n104 l105 => f60_w6A k c59 c60v1 c82 c82v1 retF p99 n104 l105) (fun p117 n122 l123 => f60_w7A k c59 c60v1 c82 c82v1 retF p117 n122 l123) (fun p135 n140 l141 => f60_w8A k c59 c60v1 c82 c82v1 retF p135 n140 l141) (fun p153 n158 l159 => f60_w9A k c59 c60v1 c82 c82v1 retF p153 n158 l159) p1 p2 l3 := by kernel_rfl

noncomputable def f60_N (k : Nat) (c59 : PV → (PV → R) → R) (c60v1 : PV → (List PV) → ((List PV) → R) → R) (c82 : (List Int) → PV → (List PV) → (Int → PV → (List PV) → R) → R) (c82v1 : (List Int) → (List PV) → (Int → PV → (List PV) → R) → R) (ret0 : (List PV) → R) (p1 : PV) (p2 : PV) (l3 : List PV) : R :=
  f60_e c59 c60v1 c82 c82v1 ret0 (fun p7 n12 l13 => f60_w1N k c59 c60v1 c82 c82v1 ret0 p7 n12 l13) (fun p27 n32 l33 => f60_w2N k c59 c60v1 c82 c82v1 ret0 p27 n32 l33) (fun p45 n50 l51 => f60_w3N k c59 c60v1 c82 c82v1 ret0 p45 n50 l51) (fun p63 n68 l69 => f60_w4N k c59 c60v1 c82 c82v1 ret0 p63 n68 l69) (fun p81 n86 l87 => f60_w5N k c59 c60v1 c82 c82v1 ret0 p81 n86 l87) (fun p99 n104 l105 => f60_w6N k c59 c60v1 c82 c82v1 ret0 p99 n104 l105) (fun p117 n122 l123 => f60_w7N k c59 c60v1 c82 c82v1 ret0 p117 n122 l123) (fun p135 n140 l141 => f60_w8N k c59 c60v1 c82 c82v1 ret0 p135 n140 l141) (fun p153 n158 l159 => f60_w9N k c59 c60v1 c82 c82v1 ret0 p153 n158 l159) p1 p2 l3
theorem f60_eq (k : Nat) (c59 : PV → (PV → R) → R) (c60v1 : PV → (List PV) → ((List PV) → R) → R) (c82 : (List Int) → PV → (List PV) → (Int → PV → (List PV) → R) → R) (c82v1 : (List Int) → (List PV) → (Int → PV → (List PV) → R) → R) (retF : (List PV) → R) (p1 : PV) (p2 : PV) (l3 : List PV) : exec (f60_E k c59 c60v1 c82 c82v1) f60_code (endK (f60_E k c59 c60v1 c82 c82v1) Try.f60 [2000000, 2000001] f60_un retF) ⟨[.ptr 2000000 [], .val 30 p1, .undef, .undef, .undef, .undef, .undef, .undef, .undef, .undef, .undef, .undef, .undef, .undef, .undef, .undef, .undef, .undef, .undef, .undef, .undef, .undef, .undef, .undef, .undef, .undef, .undef, .undef, .undef, .undef, .undef, .undef, .undef, .undef, .undef, .undef, .undef, .undef, .undef, .undef, .undef, .undef, .undef, .undef, .undef, .undef, .undef, .undef, .undef, .undef, .undef, .undef, .undef, .undef, .undef, .undef, .undef, .undef, .undef, .undef, .undef, .undef, .undef, .undef, .undef, .undef, .undef], [(2000000, .box 76 (.agg 76 [.val 74 p2, .own 43 2000001])), (2000001, .row 5 l3)]⟩ = f60_N k c59 c60v1 c82 c82v1 (fun y0 => retF y0) p1 p2 l3 :=
  (f60_e_mem k c59 c60v1 c82 c82v1 retF p1 p2 l3).trans (by rw [show (fun p7 n12 l13 => f60_w1A k c59 c60v1 c82 c82v1 retF p7 n12 l13) = (fun p7 n12 l13 => f60_w1N k c59 c60v1 c82 c82v1 (fun y0 => retF y0) p7 n12 l13) from funext fun p7 => funext fun n12 => funext fun l13 => f60_w1_eq k c59 c60v1 c82 c82v1 retF p7 n12 l13, show (fun p27 n32 l33 => f60_w2A k c59 c60v1 c82 c82v1 retF p27 n32 l33) = (fun p27 n32 l33 => f60_w2N k c59 c60v1 c82 c82v1 (fun y0 => retF y0) p27 n32 l33) from funext fun p27 => funext fun n32 => funext fun l33 => f60_w2_eq k c59 c60v1 c82 c82v1 retF p27 n32 l33, show (fun p45 n50 l51 => f60_w3A k c59 c60v1 c82 c82v1 retF p45 n50 l51) = (fun p45 n50 l51 => f60_w3N k c59 c60v1 c82 c82v1 (fun y0 => retF y0) p45 n50 l51) from funext fun p45 => funext fun n50 => funext fun l51 => f60_w3_eq k c59 c60v1 c82 c82v1 retF p45 n50 l51, show (fun p63 n68 l69 => f60_w4A k c59 c60v1 c82 c82v1 retF p63 n68 l69) = (fun p63 n68 l69 => f60_w4N k c59 c60v1 c82 c82v1 (fun y0 => retF y0) p63 n68 l69) from funext fun p63 => funext fun n68 => funext fun l69 => f60_w4_eq k c59 c60v1 c82 c82v1 retF p63 n68 l69, show (fun p81 n86 l87 => f60_w5A k c59 c60v1 c82 c82v1 retF p81 n86 l87) = (fun p81 n86 l87 => f60_w5N k c59 c60v1 c82 c82v1 (fun y0 => retF y0) p81 n86 l87) from funext fun p81 => funext fun n86 => funext fun l87 => f60_w5_eq k c59 c60v1 c82 c82v1 retF p81 n86 l87, show (fun p99 n104 l105 => f60_w6A k c59 c60v1 c82 c82v1 retF p99 n104 l105) = (fun p99 n104 l105 => f60_w6N k c59 c60v1 c82 c82v1 (fun y0 => retF y0) p99 n104 l105) from funext fun p99 => funext fun n104 => funext fun l105 => f60_w6_eq k c59 c60v1 c82 c82v1 retF p99 n104 l105, show (fun p117 n122 l123 => f60_w7A k c59 c60v1 c82 c82v1 retF p117 n122 l123) = (fun p117 n122 l123 => f60_w7N k c59 c60v1 c82 c82v1 (fun y0 => retF y0) p117 n122 l123) from funext fun p117 => funext fun n122 => funext fun l123 => f60_w7_eq k c59 c60v1 c82 c82v1 retF p117 n122 l123, show (fun p135 n140 l141 => f60_w8A k c59 c60v1 c82 c82v1 retF p135 n140 l141) = (fun p135 n140 l141 => f60_w8N k c59 c60v1 c82 c82v1 (fun y0 => retF y0) p135 n140 l141) from funext fun p135 => funext fun n140 => funext fun l141 => f60_w8_eq k c59 c60v1 c82 c82v1 retF p135 n140 l141, show (fun p153 n158 l159 => f60_w9A k c59 c60v1 c82 c82v1 retF p153 n158 l159) = (fun p153 n158 l159 => f60_w9N k c59 c60v1 c82 c82v1 (fun y0 => retF y0) p153 n158 l159) from funext fun p153 => funext fun n158 => funext fun l159 => f60_w9_eq k c59 c60v1 c82 c82v1 retF p153 n158 l159]; rfl)

noncomputable def G60 : Nat → PV → PV → (List PV) → ((List PV) → R) → R
  | 0, _, _, _, _ => none
  | k + 1, p1, p2, l3, ret0 => f60_N k (G59 k) (G60v1 k) (G82 k) (G82v1 k) ret0 p1 p2 l3
theorem S60 : ∀ k, Snd Try.prog 60 f60_I f60_O (fun x ret => G60 k x.1 x.2.1 x.2.2 (fun y0 => ret y0))
  | 0 => snd_none
  | k + 1 => snd_step (E := f60_E k (G59 k) (G60v1 k) (G82 k) (G82v1 k)) rfl laidOut noNums (orc_ok (S59 k).o f59_D_ok (orc_ok (S60v1 k).o f60v1_D_ok (orc_ok (S82 k).o f82_D_ok (orc_ok (S82v1 k).o f82v1_D_ok orc0_ok)))) (f := 60) (fn := Try.f60) (code := f60_code) Try.func60 (by kernel_rfl) (drawsOk_of laidOut (orc_ok (S59 k).o f59_D_ok (orc_ok (S60v1 k).o f60v1_D_ok (orc_ok (S82 k).o f82_D_ok (orc_ok (S82v1 k).o f82v1_D_ok orc0_ok)))) mixed (by kernel_rfl)) f60_un f60_un_ok [2000000, 2000001] (fun _ => rfl)
      (fun x ret => f60_eq k (G59 k) (G60v1 k) (G82 k) (G82v1 k) ret x.1 x.2.1 x.2.2)

/- catchpole/value.Text -/
noncomputable def f25_I : PV → List SV × Obs := fun x => ([.val 30 x], [])
noncomputable def f25_D : List SV → Obs → Option (PV)
  | [.val 30 p1], [] => some p1
  | _, _ => none
theorem f25_D_ok (args : List SV) (B : Obs) (x : PV) (h : f25_D args B = some x) : f25_I x = (args, B) := by
  unfold f25_D at h
  split at h
  · injection h with h; subst h; rfl
  · cases h
noncomputable def f25_O : (List Int) → Out := (fun y => ([.str y], []))
noncomputable def f25_un : Out → Option ((List Int))
  | ([.str y0], []) => some y0
  | _ => none
theorem f25_un_ok (o : Out) (y : (List Int)) (h : f25_un o = some y) : o = f25_O y := by
  unfold f25_un at h
  split at h
  · injection h with h; subst h; rfl
  · cases h
noncomputable def f25_msk : Nat → Option (List Nat) := fun key =>  none
noncomputable def f25_C (c60 : PV → PV → (List PV) → ((List PV) → R) → R) (c61 : (List PV) → ((List Int) → R) → R) : Oracle := orc 60 f60_D f60_O (fun x ret => c60 x.1 x.2.1 x.2.2 (fun y0 => ret y0)) <| orc 61 f61_D f61_O (fun x ret => c61 x (fun y0 => ret y0)) <| orc0
noncomputable def f25_E (k : Nat) (c60 : PV → PV → (List PV) → ((List PV) → R) → R) (c61 : (List PV) → ((List Int) → R) → R) : Env := { P := Try.prog, nilOwn := fun d => false, fldOwn := fun d i => (d == 3 && i == 1), ownPar := ownPars, ownRet := false, mask := f25_msk, fuel := k, C := f25_C c60 c61 }
noncomputable def f25_code : Code := Try.f25.body.getD .skip
noncomputable def f25_e (c60 : PV → PV → (List PV) → ((List PV) → R) → R) (c61 : (List PV) → ((List Int) → R) → R) (ret0 : (List Int) → R) (p1 : PV) : R :=
  c60 p1 PV.nil [] fun l2 =>
  c61 l2 fun s3 =>
  ret0 s3

theorem f25_e_mem (k : Nat) (c60 : PV → PV → (List PV) → ((List PV) → R) → R) (c61 : (List PV) → ((List Int) → R) → R) (retF : (List Int) → R) (p1 : PV) : exec (f25_E k c60 c61) f25_code (endK (f25_E k c60 c61) Try.f25 [] f25_un retF) ⟨[.val 30 p1, .undef, .undef, .undef, .undef, .undef, .undef], []⟩ = f25_e c60 c61 (fun y0 => retF y0) p1 := by kernel_rfl

noncomputable def f25_N (k : Nat) (c60 : PV → PV → (List PV) → ((List PV) → R) → R) (c61 : (List PV) → ((List Int) → R) → R) (ret0 : (List Int) → R) (p1 : PV) : R :=
  f25_e c60 c61 ret0 p1
theorem f25_eq (k : Nat) (c60 : PV → PV → (List PV) → ((List PV) → R) → R) (c61 : (List PV) → ((List Int) → R) → R) (retF : (List Int) → R) (p1 : PV) : exec (f25_E k c60 c61) f25_code (endK (f25_E k c60 c61) Try.f25 [] f25_un retF) ⟨[.val 30 p1, .undef, .undef, .undef, .undef, .undef, .undef], []⟩ = f25_N k c60 c61 (fun y0 => retF y0) p1 :=
  (f25_e_mem k c60 c61 retF p1)

noncomputable def G25 : Nat → PV → ((List Int) → R) → R
  | 0, _, _ => none
  | k + 1, p1, ret0 => f25_N k (G60 k) (G61 k) ret0 p1
theorem S25 : ∀ k, Snd Try.prog 25 f25_I f25_O (fun x ret => G25 k x (fun y0 => ret y0))
  | 0 => snd_none
  | k + 1 => snd_step (E := f25_E k (G60 k) (G61 k)) rfl laidOut noNums (orc_ok (S60 k).o f60_D_ok (orc_ok (S61 k).o f61_D_ok orc0_ok)) (f := 25) (fn := Try.f25) (code := f25_code) Try.func25 (by kernel_rfl) (drawsOk_of laidOut (orc_ok (S60 k).o f60_D_ok (orc_ok (S61 k).o f61_D_ok orc0_ok)) mixed (by kernel_rfl)) f25_un f25_un_ok [] (fun _ => rfl)
      (fun x ret => f25_eq k (G60 k) (G61 k) ret x)

/- catchpole/catchpolelaw11.BitsKnown -/
noncomputable def f10_I : Unit → List SV × Obs := fun x => ([], [])
noncomputable def f10_D : List SV → Obs → Option (Unit)
  | [], [] => some ()
  | _, _ => none
theorem f10_D_ok (args : List SV) (B : Obs) (x : Unit) (h : f10_D args B = some x) : f10_I x = (args, B) := by
  unfold f10_D at h
  split at h
  · injection h with h; subst h; rfl
  · cases h
noncomputable def f10_O : Bool → Out := (fun y => ([.bool y], []))
noncomputable def f10_un : Out → Option (Bool)
  | ([.bool y0], []) => some y0
  | _ => none
theorem f10_un_ok (o : Out) (y : Bool) (h : f10_un o = some y) : o = f10_O y := by
  unfold f10_un at h
  split at h
  · injection h with h; subst h; rfl
  · cases h
noncomputable def f10_msk : Nat → Option (List Nat) := fun key => bif key == 24 then some [1, 2, 3, 4, 5, 6, 7] else none
noncomputable def f10_C (c25 : PV → ((List Int) → R) → R) (c40 : (Bool → R) → R) (c43 : PV → (List Int) → PV → (PV → Int → R) → R) (c46 : PV → ((List Int) → R) → R) (c49 : PV → (PV → R) → R) (c50 : PV → PV → (PV → R) → R) (c51 : PV → (PV → R) → R) (c52 : PV → PV → (PV → R) → R) (c53 : (PV → R) → R) (c54 : Int → PV → (PV → R) → R) (c55 : PV → (PV → R) → R) : Oracle := orc 25 f25_D f25_O (fun x ret => c25 x (fun y0 => ret y0)) <| orc 40 f40_D f40_O (fun x ret => c40 (fun y0 => ret y0)) <| orc 43 f43_D f43_O (fun x ret => c43 x.1 x.2.1 x.2.2 (fun y0 y1 => ret (y0, y1))) <| orc 46 f46_D f46_O (fun x ret => c46 x (fun y0 => ret y0)) <| orc 49 f49_D f49_O (fun x ret => c49 x (fun y0 => ret y0)) <| orc 50 f50_D f50_O (fun x ret => c50 x.1 x.2 (fun y0 => ret y0)) <| orc 51 f51_D f51_O (fun x ret => c51 x (fun y0 => ret y0)) <| orc 52 f52_D f52_O (fun x ret => c52 x.1 x.2 (fun y0 => ret y0)) <| orc 53 f53_D f53_O (fun x ret => c53 (fun y0 => ret y0)) <| orc 54 f54_D f54_O (fun x ret => c54 x.1 x.2 (fun y0 => ret y0)) <| orc 55 f55_D f55_O (fun x ret => c55 x (fun y0 => ret y0)) <| orc0
noncomputable def f10_E (k : Nat) (c25 : PV → ((List Int) → R) → R) (c40 : (Bool → R) → R) (c43 : PV → (List Int) → PV → (PV → Int → R) → R) (c46 : PV → ((List Int) → R) → R) (c49 : PV → (PV → R) → R) (c50 : PV → PV → (PV → R) → R) (c51 : PV → (PV → R) → R) (c52 : PV → PV → (PV → R) → R) (c53 : (PV → R) → R) (c54 : Int → PV → (PV → R) → R) (c55 : PV → (PV → R) → R) : Env := { P := Try.prog, nilOwn := fun d => d == 39 || d == 46 || d == 64 || d == 73 || d == 110, fldOwn := fun d i => false, ownPar := ownPars, ownRet := false, mask := f10_msk, fuel := k, C := f10_C c25 c40 c43 c46 c49 c50 c51 c52 c53 c54 c55 }
noncomputable def f10_code : Code := Try.f10.body.getD .skip
noncomputable def G10 (k : Nat) (ret0 : Bool → R) : R := exec (f10_E k (G25 k) (G40 k) (G43 k) (G46 k) (G49 k) (G50 k) (G51 k) (G52 k) (G53 k) (G54 k) (G55 k)) f10_code (endK (f10_E k (G25 k) (G40 k) (G43 k) (G46 k) (G49 k) (G50 k) (G51 k) (G52 k) (G53 k) (G54 k) (G55 k)) Try.f10 [] f10_un ret0) { T := (f10_I ()).1 ++ List.replicate (Try.f10.ntmps - (f10_I ()).1.length) .undef, B := (f10_I ()).2 }
theorem S10 : ∀ k, Snd Try.prog 10 f10_I f10_O (fun x ret => G10 k (fun y0 => ret y0)) := fun k =>
  snd_step (E := f10_E k (G25 k) (G40 k) (G43 k) (G46 k) (G49 k) (G50 k) (G51 k) (G52 k) (G53 k) (G54 k) (G55 k)) rfl laidOut noNums (orc_ok (S25 k).o f25_D_ok (orc_ok (S40 k).o f40_D_ok (orc_ok (S43 k).o f43_D_ok (orc_ok (S46 k).o f46_D_ok (orc_ok (S49 k).o f49_D_ok (orc_ok (S50 k).o f50_D_ok (orc_ok (S51 k).o f51_D_ok (orc_ok (S52 k).o f52_D_ok (orc_ok (S53 k).o f53_D_ok (orc_ok (S54 k).o f54_D_ok (orc_ok (S55 k).o f55_D_ok orc0_ok))))))))))) (f := 10) (fn := Try.f10) (code := f10_code) Try.func10 (by kernel_rfl) (drawsOk_of laidOut (orc_ok (S25 k).o f25_D_ok (orc_ok (S40 k).o f40_D_ok (orc_ok (S43 k).o f43_D_ok (orc_ok (S46 k).o f46_D_ok (orc_ok (S49 k).o f49_D_ok (orc_ok (S50 k).o f50_D_ok (orc_ok (S51 k).o f51_D_ok (orc_ok (S52 k).o f52_D_ok (orc_ok (S53 k).o f53_D_ok (orc_ok (S54 k).o f54_D_ok (orc_ok (S55 k).o f55_D_ok orc0_ok))))))))))) mixed (by kernel_rfl)) f10_un f10_un_ok [] (fun _ => rfl) (fun x ret => rfl)

end Go.Proofs.Ytbellpoahhhmhaa
