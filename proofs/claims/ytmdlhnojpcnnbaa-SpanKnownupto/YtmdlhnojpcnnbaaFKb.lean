/- Functions of the program as Lean functions, each tied to the program by the kernel: catchpolelaw20.SpanKnown -/
import Derived.Test.YtmdlhnojpcnnbaaFK
set_option linter.unusedVariables false
set_option maxRecDepth 100000
namespace Go.Proofs.Ytmdlhnojpcnnbaa
open Go Go.X
/- catchpole/value.text -/
noncomputable def f54v1_I : PV × (List PV) → List SV × Obs := fun x => ([.ptr 2000000 [], .val 39 x.1], [(2000000, .box 97 (.agg 97 [.ptr 2000000 [], .own 36 2000001])), (2000001, .row 5 x.2)])
noncomputable def f54v1_D : List SV → Obs → Option (PV × (List PV))
  | [.ptr 2000000 [], .val 39 p1], [(2000000, .box 97 (.agg 97 [.ptr 2000000 [], .own 36 2000001])), (2000001, .row 5 l2)] => some (p1, l2)
  | _, _ => none
theorem f54v1_D_ok (args : List SV) (B : Obs) (x : PV × (List PV)) (h : f54v1_D args B = some x) : f54v1_I x = (args, B) := by
  unfold f54v1_D at h
  split at h
  · injection h with h; subst h; rfl
  · cases h
noncomputable def f54v1_O : (List PV) → Out := (fun y => ([], [(2000000, .box 97 (.agg 97 [.ptr 2000000 [], .own 36 2000001])), (2000001, .row 5 y)]))
noncomputable def f54v1_un : Out → Option ((List PV))
  | ([], [(2000000, .box 97 (.agg 97 [.ptr 2000000 [], .own 36 2000001])), (2000001, .row 5 y0)]) => some y0
  | _ => none
theorem f54v1_un_ok (o : Out) (y : (List PV)) (h : f54v1_un o = some y) : o = f54v1_O y := by
  unfold f54v1_un at h
  split at h
  · injection h with h; subst h; rfl
  · cases h
noncomputable def f54v1_msk : Nat → Option (List Nat) := fun key => bif key == 63 then some [0, 5, 49, 50, 51] else none
noncomputable def f54v1_C (c54v1 : PV → (List PV) → ((List PV) → R) → R) (c79v1 : (List Int) → (List PV) → (Int → PV → (List PV) → R) → R) (c80 : PV → (PV → R) → R) : Oracle := orc 54 f54v1_D f54v1_O (fun x ret => c54v1 x.1 x.2 (fun y0 => ret y0)) <| orc 79 f79v1_D f79v1_O (fun x ret => c79v1 x.1 x.2 (fun y0 y1 y2 => ret (y0, y1, y2))) <| orc 80 f80_D f80_O (fun x ret => c80 x (fun y0 => ret y0)) <| orc0
noncomputable def f54v1_E (k : Nat) (c54v1 : PV → (List PV) → ((List PV) → R) → R) (c79v1 : (List Int) → (List PV) → (Int → PV → (List PV) → R) → R) (c80 : PV → (PV → R) → R) : Env := { P := Try.prog, nilOwn := fun d => false, fldOwn := fun d i => false, ownPar := ownPars, ownRet := false, hpD := fun d => false, hpF := hpFs, hpNew := false, mask := f54v1_msk, fuel := k, C := f54v1_C c54v1 c79v1 c80 }
noncomputable def f54v1_code : Code := Try.f54.body.getD .skip
noncomputable def f54v1_cw1 : Code := subC f54v1_code [1, 1, 1, 1, 0, 1, 0, 0]
noncomputable def f54v1_hw1_0 (p6 : PV) (n11 : Int) (l12 : List PV) : St := ⟨[.ptr 2000000 [], .dead, .dead, .dead, .dead, .str [], .dead, .dead, .dead, .dead, .dead, .dead, .dead, .dead, .dead, .dead, .dead, .dead, .dead, .dead, .dead, .dead, .dead, .dead, .dead, .dead, .dead, .dead, .dead, .dead, .dead, .dead, .dead, .dead, .dead, .dead, .dead, .dead, .dead, .dead, .dead, .dead, .dead, .dead, .dead, .dead, .dead, .dead, .dead, .val 37 p6, .int .i64 (List.length (PV.els p6) : Int), .int .i64 n11, .dead, .dead, .dead, .dead, .dead, .dead, .dead, .dead, .dead, .dead, .dead, .dead, .dead, .dead, .dead], [(2000000, .box 97 (.agg 97 [.ptr 2000000 [], .own 36 2000001])), (2000001, .row 5 l12)]⟩
noncomputable def f54v1_w1A (k : Nat) (c54v1 : PV → (List PV) → ((List PV) → R) → R) (c79v1 : (List Int) → (List PV) → (Int → PV → (List PV) → R) → R) (c80 : PV → (PV → R) → R) (retF : (List PV) → R) (p6 : PV) (n11 : Int) (l12 : List PV) : R := loopM (f54v1_E k c54v1 c79v1 c80) f54v1_cw1 (kont (f54v1_E k c54v1 c79v1 c80) f54v1_code [1, 1, 1, 1, 0, 1, 0] (endK (f54v1_E k c54v1 c79v1 c80) Try.f54 [2000000, 2000001] f54v1_un retF)) k (f54v1_hw1_0 p6 n11 l12)
noncomputable def f54v1_w1b0 (c54v1 : PV → (List PV) → ((List PV) → R) → R) (c79v1 : (List Int) → (List PV) → (Int → PV → (List PV) → R) → R) (c80 : PV → (PV → R) → R) (ret0 : (List PV) → R) (next_w1_0 : Int → (List PV) → R) (p6 : PV) (n11 : Int) (l12 : List PV) : R :=
  bif (decide (n11 < (List.length (PV.els p6) : Int))) then
    bif (true && decide ((0 : Int) ≤ n11) && decide (n11 < (List.length (PV.els p6) : Int))) then
      bif (decide ((0 : Int) < n11)) then
        c79v1 [44] l12 fun n13 p14 l15 =>
        c54v1 (List.getD (PV.els p6) (n11).toNat PV.nil) l15 fun l16 =>
        next_w1_0 (IntKind.wrap .i64 (n11 + (1 : Int))) l16
      else c54v1 (List.getD (PV.els p6) (n11).toNat PV.nil) l12 fun l17 =>
      next_w1_0 (IntKind.wrap .i64 (n11 + (1 : Int))) l17
    else none
  else c79v1 [] l12 fun n18 p19 l20 =>
  ret0 l20

theorem f54v1_w1b0_mem (k : Nat) (c54v1 : PV → (List PV) → ((List PV) → R) → R) (c79v1 : (List Int) → (List PV) → (Int → PV → (List PV) → R) → R) (c80 : PV → (PV → R) → R) (retF : (List PV) → R) (NX_w1 : St → R) (p6 : PV) (n11 : Int) (l12 : List PV) : exec (f54v1_E k c54v1 c79v1 c80) f54v1_cw1 (purgeK (f54v1_E k c54v1 c79v1 c80) f54v1_cw1 (loopK NX_w1 (kont (f54v1_E k c54v1 c79v1 c80) f54v1_code [1, 1, 1, 1, 0, 1, 0] (endK (f54v1_E k c54v1 c79v1 c80) Try.f54 [2000000, 2000001] f54v1_un retF)))) (f54v1_hw1_0 p6 n11 l12) = f54v1_w1b0 c54v1 c79v1 c80 (fun y0 => retF y0) (fun n11 l12 => NX_w1 (f54v1_hw1_0 p6 n11 l12)) p6 n11 l12 := by kernel_rfl

noncomputable def f54v1_w1b0N (k : Nat) (c54v1 : PV → (List PV) → ((List PV) → R) → R) (c79v1 : (List Int) → (List PV) → (Int → PV → (List PV) → R) → R) (c80 : PV → (PV → R) → R) (ret0 : (List PV) → R) (next_w1_0 : Int → (List PV) → R) (p6 : PV) (n11 : Int) (l12 : List PV) : R :=
  f54v1_w1b0 c54v1 c79v1 c80 ret0 next_w1_0 p6 n11 l12
theorem f54v1_w1b0_eq (k : Nat) (c54v1 : PV → (List PV) → ((List PV) → R) → R) (c79v1 : (List Int) → (List PV) → (Int → PV → (List PV) → R) → R) (c80 : PV → (PV → R) → R) (retF : (List PV) → R) (NX_w1 : St → R) (p6 : PV) (n11 : Int) (l12 : List PV) : exec (f54v1_E k c54v1 c79v1 c80) f54v1_cw1 (purgeK (f54v1_E k c54v1 c79v1 c80) f54v1_cw1 (loopK NX_w1 (kont (f54v1_E k c54v1 c79v1 c80) f54v1_code [1, 1, 1, 1, 0, 1, 0] (endK (f54v1_E k c54v1 c79v1 c80) Try.f54 [2000000, 2000001] f54v1_un retF)))) (f54v1_hw1_0 p6 n11 l12) = f54v1_w1b0N k c54v1 c79v1 c80 (fun y0 => retF y0) (fun n11 l12 => NX_w1 (f54v1_hw1_0 p6 n11 l12)) p6 n11 l12 :=
  (f54v1_w1b0_mem k c54v1 c79v1 c80 retF NX_w1 p6 n11 l12)

noncomputable def f54v1_w1B (k : Nat) (c54v1 : PV → (List PV) → ((List PV) → R) → R) (c79v1 : (List Int) → (List PV) → (Int → PV → (List PV) → R) → R) (c80 : PV → (PV → R) → R) (ret0 : (List PV) → R) (p6 : PV) (nx : Int × (List PV) → R) : Int × (List PV) → R := (fun s => f54v1_w1b0N k c54v1 c79v1 c80 ret0 (fun n11 l12 => nx (n11, l12)) p6 s.1 s.2)
noncomputable def f54v1_w1N (k : Nat) (c54v1 : PV → (List PV) → ((List PV) → R) → R) (c79v1 : (List Int) → (List PV) → (Int → PV → (List PV) → R) → R) (c80 : PV → (PV → R) → R) (ret0 : (List PV) → R) (p6 : PV) (n11 : Int) (l12 : List PV) : R := loopR (f54v1_w1B k c54v1 c79v1 c80 ret0 p6) k (n11, l12)
theorem f54v1_w1_eq (k : Nat) (c54v1 : PV → (List PV) → ((List PV) → R) → R) (c79v1 : (List Int) → (List PV) → (Int → PV → (List PV) → R) → R) (c80 : PV → (PV → R) → R) (retF : (List PV) → R) (p6 : PV) (n11 : Int) (l12 : List PV) : f54v1_w1A k c54v1 c79v1 c80 retF p6 n11 l12 = f54v1_w1N k c54v1 c79v1 c80 (fun y0 => retF y0) p6 n11 l12 :=
  Eq.mp (by kernel_rfl) (loop_sim (E := (f54v1_E k c54v1 c79v1 c80)) (c := f54v1_cw1) (K := (kont (f54v1_E k c54v1 c79v1 c80) f54v1_code [1, 1, 1, 1, 0, 1, 0] (endK (f54v1_E k c54v1 c79v1 c80) Try.f54 [2000000, 2000001] f54v1_un retF))) (S := Int × (List PV)) (fun s => f54v1_hw1_0 p6 s.1 s.2) (f54v1_w1B k c54v1 c79v1 c80 (fun y0 => retF y0) p6) (fun NX s => by
    exact Eq.mp (by kernel_rfl) (f54v1_w1b0_eq k c54v1 c79v1 c80 retF NX p6 s.1 s.2)) k (n11, l12))

noncomputable def f54v1_cw3 : Code := subC f54v1_code [1, 1, 1, 1, 0, 1, 0, 0]
noncomputable def f54v1_hw3_0 (p44 : PV) (n49 : Int) (l50 : List PV) : St := ⟨[.ptr 2000000 [], .dead, .dead, .dead, .dead, .str [44, 41], .dead, .dead, .dead, .dead, .dead, .dead, .dead, .dead, .dead, .dead, .dead, .dead, .dead, .dead, .dead, .dead, .dead, .dead, .dead, .dead, .dead, .dead, .dead, .dead, .dead, .dead, .dead, .dead, .dead, .dead, .dead, .dead, .dead, .dead, .dead, .dead, .dead, .dead, .dead, .dead, .dead, .dead, .dead, .val 37 p44, .int .i64 (List.length (PV.els p44) : Int), .int .i64 n49, .dead, .dead, .dead, .dead, .dead, .dead, .dead, .dead, .dead, .dead, .dead, .dead, .dead, .dead, .dead], [(2000000, .box 97 (.agg 97 [.ptr 2000000 [], .own 36 2000001])), (2000001, .row 5 l50)]⟩
noncomputable def f54v1_w3A (k : Nat) (c54v1 : PV → (List PV) → ((List PV) → R) → R) (c79v1 : (List Int) → (List PV) → (Int → PV → (List PV) → R) → R) (c80 : PV → (PV → R) → R) (retF : (List PV) → R) (p44 : PV) (n49 : Int) (l50 : List PV) : R := loopM (f54v1_E k c54v1 c79v1 c80) f54v1_cw3 (kont (f54v1_E k c54v1 c79v1 c80) f54v1_code [1, 1, 1, 1, 0, 1, 0] (endK (f54v1_E k c54v1 c79v1 c80) Try.f54 [2000000, 2000001] f54v1_un retF)) k (f54v1_hw3_0 p44 n49 l50)
noncomputable def f54v1_w3b0 (c54v1 : PV → (List PV) → ((List PV) → R) → R) (c79v1 : (List Int) → (List PV) → (Int → PV → (List PV) → R) → R) (c80 : PV → (PV → R) → R) (ret0 : (List PV) → R) (next_w3_0 : Int → (List PV) → R) (p44 : PV) (n49 : Int) (l50 : List PV) : R :=
  bif (decide (n49 < (List.length (PV.els p44) : Int))) then
    bif (true && decide ((0 : Int) ≤ n49) && decide (n49 < (List.length (PV.els p44) : Int))) then
      bif (decide ((0 : Int) < n49)) then
        c79v1 [44] l50 fun n51 p52 l53 =>
        c54v1 (List.getD (PV.els p44) (n49).toNat PV.nil) l53 fun l54 =>
        next_w3_0 (IntKind.wrap .i64 (n49 + (1 : Int))) l54
      else c54v1 (List.getD (PV.els p44) (n49).toNat PV.nil) l50 fun l55 =>
      next_w3_0 (IntKind.wrap .i64 (n49 + (1 : Int))) l55
    else none
  else c79v1 [44, 41] l50 fun n56 p57 l58 =>
  ret0 l58

theorem f54v1_w3b0_mem (k : Nat) (c54v1 : PV → (List PV) → ((List PV) → R) → R) (c79v1 : (List Int) → (List PV) → (Int → PV → (List PV) → R) → R) (c80 : PV → (PV → R) → R) (retF : (List PV) → R) (NX_w3 : St → R) (p44 : PV) (n49 : Int) (l50 : List PV) : exec (f54v1_E k c54v1 c79v1 c80) f54v1_cw3 (purgeK (f54v1_E k c54v1 c79v1 c80) f54v1_cw3 (loopK NX_w3 (kont (f54v1_E k c54v1 c79v1 c80) f54v1_code [1, 1, 1, 1, 0, 1, 0] (endK (f54v1_E k c54v1 c79v1 c80) Try.f54 [2000000, 2000001] f54v1_un retF)))) (f54v1_hw3_0 p44 n49 l50) = f54v1_w3b0 c54v1 c79v1 c80 (fun y0 => retF y0) (fun n49 l50 => NX_w3 (f54v1_hw3_0 p44 n49 l50)) p44 n49 l50 := by kernel_rfl

noncomputable def f54v1_w3b0N (k : Nat) (c54v1 : PV → (List PV) → ((List PV) → R) → R) (c79v1 : (List Int) → (List PV) → (Int → PV → (List PV) → R) → R) (c80 : PV → (PV → R) → R) (ret0 : (List PV) → R) (next_w3_0 : Int → (List PV) → R) (p44 : PV) (n49 : Int) (l50 : List PV) : R :=
  f54v1_w3b0 c54v1 c79v1 c80 ret0 next_w3_0 p44 n49 l50
theorem f54v1_w3b0_eq (k : Nat) (c54v1 : PV → (List PV) → ((List PV) → R) → R) (c79v1 : (List Int) → (List PV) → (Int → PV → (List PV) → R) → R) (c80 : PV → (PV → R) → R) (retF : (List PV) → R) (NX_w3 : St → R) (p44 : PV) (n49 : Int) (l50 : List PV) : exec (f54v1_E k c54v1 c79v1 c80) f54v1_cw3 (purgeK (f54v1_E k c54v1 c79v1 c80) f54v1_cw3 (loopK NX_w3 (kont (f54v1_E k c54v1 c79v1 c80) f54v1_code [1, 1, 1, 1, 0, 1, 0] (endK (f54v1_E k c54v1 c79v1 c80) Try.f54 [2000000, 2000001] f54v1_un retF)))) (f54v1_hw3_0 p44 n49 l50) = f54v1_w3b0N k c54v1 c79v1 c80 (fun y0 => retF y0) (fun n49 l50 => NX_w3 (f54v1_hw3_0 p44 n49 l50)) p44 n49 l50 :=
  (f54v1_w3b0_mem k c54v1 c79v1 c80 retF NX_w3 p44 n49 l50)

noncomputable def f54v1_w3B (k : Nat) (c54v1 : PV → (List PV) → ((List PV) → R) → R) (c79v1 : (List Int) → (List PV) → (Int → PV → (List PV) → R) → R) (c80 : PV → (PV → R) → R) (ret0 : (List PV) → R) (p44 : PV) (nx : Int × (List PV) → R) : Int × (List PV) → R := (fun s => f54v1_w3b0N k c54v1 c79v1 c80 ret0 (fun n49 l50 => nx (n49, l50)) p44 s.1 s.2)
noncomputable def f54v1_w3N (k : Nat) (c54v1 : PV → (List PV) → ((List PV) → R) → R) (c79v1 : (List Int) → (List PV) → (Int → PV → (List PV) → R) → R) (c80 : PV → (PV → R) → R) (ret0 : (List PV) → R) (p44 : PV) (n49 : Int) (l50 : List PV) : R := loopR (f54v1_w3B k c54v1 c79v1 c80 ret0 p44) k (n49, l50)
theorem f54v1_w3_eq (k : Nat) (c54v1 : PV → (List PV) → ((List PV) → R) → R) (c79v1 : (List Int) → (List PV) → (Int → PV → (List PV) → R) → R) (c80 : PV → (PV → R) → R) (retF : (List PV) → R) (p44 : PV) (n49 : Int) (l50 : List PV) : f54v1_w3A k c54v1 c79v1 c80 retF p44 n49 l50 = f54v1_w3N k c54v1 c79v1 c80 (fun y0 => retF y0) p44 n49 l50 :=
  Eq.mp (by kernel_rfl) (loop_sim (E := (f54v1_E k c54v1 c79v1 c80)) (c := f54v1_cw3) (K := (kont (f54v1_E k c54v1 c79v1 c80) f54v1_code [1, 1, 1, 1, 0, 1, 0] (endK (f54v1_E k c54v1 c79v1 c80) Try.f54 [2000000, 2000001] f54v1_un retF))) (S := Int × (List PV)) (fun s => f54v1_hw3_0 p44 s.1 s.2) (f54v1_w3B k c54v1 c79v1 c80 (fun y0 => retF y0) p44) (fun NX s => by
    exact Eq.mp (by kernel_rfl) (f54v1_w3b0_eq k c54v1 c79v1 c80 retF NX p44 s.1 s.2)) k (n49, l50))

noncomputable def f54v1_cw4 : Code := subC f54v1_code [1, 1, 1, 1, 0, 1, 0, 0]
noncomputable def f54v1_hw4_0 (p62 : PV) (n67 : Int) (l68 : List PV) : St := ⟨[.ptr 2000000 [], .dead, .dead, .dead, .dead, .str [41], .dead, .dead, .dead, .dead, .dead, .dead, .dead, .dead, .dead, .dead, .dead, .dead, .dead, .dead, .dead, .dead, .dead, .dead, .dead, .dead, .dead, .dead, .dead, .dead, .dead, .dead, .dead, .dead, .dead, .dead, .dead, .dead, .dead, .dead, .dead, .dead, .dead, .dead, .dead, .dead, .dead, .dead, .dead, .val 37 p62, .int .i64 (List.length (PV.els p62) : Int), .int .i64 n67, .dead, .dead, .dead, .dead, .dead, .dead, .dead, .dead, .dead, .dead, .dead, .dead, .dead, .dead, .dead], [(2000000, .box 97 (.agg 97 [.ptr 2000000 [], .own 36 2000001])), (2000001, .row 5 l68)]⟩
noncomputable def f54v1_w4A (k : Nat) (c54v1 : PV → (List PV) → ((List PV) → R) → R) (c79v1 : (List Int) → (List PV) → (Int → PV → (List PV) → R) → R) (c80 : PV → (PV → R) → R) (retF : (List PV) → R) (p62 : PV) (n67 : Int) (l68 : List PV) : R := loopM (f54v1_E k c54v1 c79v1 c80) f54v1_cw4 (kont (f54v1_E k c54v1 c79v1 c80) f54v1_code [1, 1, 1, 1, 0, 1, 0] (endK (f54v1_E k c54v1 c79v1 c80) Try.f54 [2000000, 2000001] f54v1_un retF)) k (f54v1_hw4_0 p62 n67 l68)
noncomputable def f54v1_w4b0 (c54v1 : PV → (List PV) → ((List PV) → R) → R) (c79v1 : (List Int) → (List PV) → (Int → PV → (List PV) → R) → R) (c80 : PV → (PV → R) → R) (ret0 : (List PV) → R) (next_w4_0 : Int → (List PV) → R) (p62 : PV) (n67 : Int) (l68 : List PV) : R :=
  bif (decide (n67 < (List.length (PV.els p62) : Int))) then
    bif (true && decide ((0 : Int) ≤ n67) && decide (n67 < (List.length (PV.els p62) : Int))) then
      bif (decide ((0 : Int) < n67)) then
        c79v1 [44] l68 fun n69 p70 l71 =>
        c54v1 (List.getD (PV.els p62) (n67).toNat PV.nil) l71 fun l72 =>
        next_w4_0 (IntKind.wrap .i64 (n67 + (1 : Int))) l72
      else c54v1 (List.getD (PV.els p62) (n67).toNat PV.nil) l68 fun l73 =>
      next_w4_0 (IntKind.wrap .i64 (n67 + (1 : Int))) l73
    else none
  else c79v1 [41] l68 fun n74 p75 l76 =>
  ret0 l76

theorem f54v1_w4b0_mem (k : Nat) (c54v1 : PV → (List PV) → ((List PV) → R) → R) (c79v1 : (List Int) → (List PV) → (Int → PV → (List PV) → R) → R) (c80 : PV → (PV → R) → R) (retF : (List PV) → R) (NX_w4 : St → R) (p62 : PV) (n67 : Int) (l68 : List PV) : exec (f54v1_E k c54v1 c79v1 c80) f54v1_cw4 (purgeK (f54v1_E k c54v1 c79v1 c80) f54v1_cw4 (loopK NX_w4 (kont (f54v1_E k c54v1 c79v1 c80) f54v1_code [1, 1, 1, 1, 0, 1, 0] (endK (f54v1_E k c54v1 c79v1 c80) Try.f54 [2000000, 2000001] f54v1_un retF)))) (f54v1_hw4_0 p62 n67 l68) = f54v1_w4b0 c54v1 c79v1 c80 (fun y0 => retF y0) (fun n67 l68 => NX_w4 (f54v1_hw4_0 p62 n67 l68)) p62 n67 l68 := by kernel_rfl

noncomputable def f54v1_w4b0N (k : Nat) (c54v1 : PV → (List PV) → ((List PV) → R) → R) (c79v1 : (List Int) → (List PV) → (Int → PV → (List PV) → R) → R) (c80 : PV → (PV → R) → R) (ret0 : (List PV) → R) (next_w4_0 : Int → (List PV) → R) (p62 : PV) (n67 : Int) (l68 : List PV) : R :=
  f54v1_w4b0 c54v1 c79v1 c80 ret0 next_w4_0 p62 n67 l68
theorem f54v1_w4b0_eq (k : Nat) (c54v1 : PV → (List PV) → ((List PV) → R) → R) (c79v1 : (List Int) → (List PV) → (Int → PV → (List PV) → R) → R) (c80 : PV → (PV → R) → R) (retF : (List PV) → R) (NX_w4 : St → R) (p62 : PV) (n67 : Int) (l68 : List PV) : exec (f54v1_E k c54v1 c79v1 c80) f54v1_cw4 (purgeK (f54v1_E k c54v1 c79v1 c80) f54v1_cw4 (loopK NX_w4 (kont (f54v1_E k c54v1 c79v1 c80) f54v1_code [1, 1, 1, 1, 0, 1, 0] (endK (f54v1_E k c54v1 c79v1 c80) Try.f54 [2000000, 2000001] f54v1_un retF)))) (f54v1_hw4_0 p62 n67 l68) = f54v1_w4b0N k c54v1 c79v1 c80 (fun y0 => retF y0) (fun n67 l68 => NX_w4 (f54v1_hw4_0 p62 n67 l68)) p62 n67 l68 :=
  (f54v1_w4b0_mem k c54v1 c79v1 c80 retF NX_w4 p62 n67 l68)

noncomputable def f54v1_w4B (k : Nat) (c54v1 : PV → (List PV) → ((List PV) → R) → R) (c79v1 : (List Int) → (List PV) → (Int → PV → (List PV) → R) → R) (c80 : PV → (PV → R) → R) (ret0 : (List PV) → R) (p62 : PV) (nx : Int × (List PV) → R) : Int × (List PV) → R := (fun s => f54v1_w4b0N k c54v1 c79v1 c80 ret0 (fun n67 l68 => nx (n67, l68)) p62 s.1 s.2)
noncomputable def f54v1_w4N (k : Nat) (c54v1 : PV → (List PV) → ((List PV) → R) → R) (c79v1 : (List Int) → (List PV) → (Int → PV → (List PV) → R) → R) (c80 : PV → (PV → R) → R) (ret0 : (List PV) → R) (p62 : PV) (n67 : Int) (l68 : List PV) : R := loopR (f54v1_w4B k c54v1 c79v1 c80 ret0 p62) k (n67, l68)
theorem f54v1_w4_eq (k : Nat) (c54v1 : PV → (List PV) → ((List PV) → R) → R) (c79v1 : (List Int) → (List PV) → (Int → PV → (List PV) → R) → R) (c80 : PV → (PV → R) → R) (retF : (List PV) → R) (p62 : PV) (n67 : Int) (l68 : List PV) : f54v1_w4A k c54v1 c79v1 c80 retF p62 n67 l68 = f54v1_w4N k c54v1 c79v1 c80 (fun y0 => retF y0) p62 n67 l68 :=
  Eq.mp (by kernel_rfl) (loop_sim (E := (f54v1_E k c54v1 c79v1 c80)) (c := f54v1_cw4) (K := (kont (f54v1_E k c54v1 c79v1 c80) f54v1_code [1, 1, 1, 1, 0, 1, 0] (endK (f54v1_E k c54v1 c79v1 c80) Try.f54 [2000000, 2000001] f54v1_un retF))) (S := Int × (List PV)) (fun s => f54v1_hw4_0 p62 s.1 s.2) (f54v1_w4B k c54v1 c79v1 c80 (fun y0 => retF y0) p62) (fun NX s => by
    exact Eq.mp (by kernel_rfl) (f54v1_w4b0_eq k c54v1 c79v1 c80 retF NX p62 s.1 s.2)) k (n67, l68))

noncomputable def f54v1_cw7 : Code := subC f54v1_code [1, 1, 1, 1, 0, 1, 0, 0]
noncomputable def f54v1_hw7_0 (p116 : PV) (n121 : Int) (l122 : List PV) : St := ⟨[.ptr 2000000 [], .dead, .dead, .dead, .dead, .str [93], .dead, .dead, .dead, .dead, .dead, .dead, .dead, .dead, .dead, .dead, .dead, .dead, .dead, .dead, .dead, .dead, .dead, .dead, .dead, .dead, .dead, .dead, .dead, .dead, .dead, .dead, .dead, .dead, .dead, .dead, .dead, .dead, .dead, .dead, .dead, .dead, .dead, .dead, .dead, .dead, .dead, .dead, .dead, .val 37 p116, .int .i64 (List.length (PV.els p116) : Int), .int .i64 n121, .dead, .dead, .dead, .dead, .dead, .dead, .dead, .dead, .dead, .dead, .dead, .dead, .dead, .dead, .dead], [(2000000, .box 97 (.agg 97 [.ptr 2000000 [], .own 36 2000001])), (2000001, .row 5 l122)]⟩
noncomputable def f54v1_w7A (k : Nat) (c54v1 : PV → (List PV) → ((List PV) → R) → R) (c79v1 : (List Int) → (List PV) → (Int → PV → (List PV) → R) → R) (c80 : PV → (PV → R) → R) (retF : (List PV) → R) (p116 : PV) (n121 : Int) (l122 : List PV) : R := loopM (f54v1_E k c54v1 c79v1 c80) f54v1_cw7 (kont (f54v1_E k c54v1 c79v1 c80) f54v1_code [1, 1, 1, 1, 0, 1, 0] (endK (f54v1_E k c54v1 c79v1 c80) Try.f54 [2000000, 2000001] f54v1_un retF)) k (f54v1_hw7_0 p116 n121 l122)
noncomputable def f54v1_w7b0 (c54v1 : PV → (List PV) → ((List PV) → R) → R) (c79v1 : (List Int) → (List PV) → (Int → PV → (List PV) → R) → R) (c80 : PV → (PV → R) → R) (ret0 : (List PV) → R) (next_w7_0 : Int → (List PV) → R) (p116 : PV) (n121 : Int) (l122 : List PV) : R :=
  bif (decide (n121 < (List.length (PV.els p116) : Int))) then
    bif (true && decide ((0 : Int) ≤ n121) && decide (n121 < (List.length (PV.els p116) : Int))) then
      bif (decide ((0 : Int) < n121)) then
        c79v1 [44] l122 fun n123 p124 l125 =>
        c54v1 (List.getD (PV.els p116) (n121).toNat PV.nil) l125 fun l126 =>
        next_w7_0 (IntKind.wrap .i64 (n121 + (1 : Int))) l126
      else c54v1 (List.getD (PV.els p116) (n121).toNat PV.nil) l122 fun l127 =>
      next_w7_0 (IntKind.wrap .i64 (n121 + (1 : Int))) l127
    else none
  else c79v1 [93] l122 fun n128 p129 l130 =>
  ret0 l130

theorem f54v1_w7b0_mem (k : Nat) (c54v1 : PV → (List PV) → ((List PV) → R) → R) (c79v1 : (List Int) → (List PV) → (Int → PV → (List PV) → R) → R) (c80 : PV → (PV → R) → R) (retF : (List PV) → R) (NX_w7 : St → R) (p116 : PV) (n121 : Int) (l122 : List PV) : exec (f54v1_E k c54v1 c79v1 c80) f54v1_cw7 (purgeK (f54v1_E k c54v1 c79v1 c80) f54v1_cw7 (loopK NX_w7 (kont (f54v1_E k c54v1 c79v1 c80) f54v1_code [1, 1, 1, 1, 0, 1, 0] (endK (f54v1_E k c54v1 c79v1 c80) Try.f54 [2000000, 2000001] f54v1_un retF)))) (f54v1_hw7_0 p116 n121 l122) = f54v1_w7b0 c54v1 c79v1 c80 (fun y0 => retF y0) (fun n121 l122 => NX_w7 (f54v1_hw7_0 p116 n121 l122)) p116 n121 l122 := by kernel_rfl

noncomputable def f54v1_w7b0N (k : Nat) (c54v1 : PV → (List PV) → ((List PV) → R) → R) (c79v1 : (List Int) → (List PV) → (Int → PV → (List PV) → R) → R) (c80 : PV → (PV → R) → R) (ret0 : (List PV) → R) (next_w7_0 : Int → (List PV) → R) (p116 : PV) (n121 : Int) (l122 : List PV) : R :=
  f54v1_w7b0 c54v1 c79v1 c80 ret0 next_w7_0 p116 n121 l122
theorem f54v1_w7b0_eq (k : Nat) (c54v1 : PV → (List PV) → ((List PV) → R) → R) (c79v1 : (List Int) → (List PV) → (Int → PV → (List PV) → R) → R) (c80 : PV → (PV → R) → R) (retF : (List PV) → R) (NX_w7 : St → R) (p116 : PV) (n121 : Int) (l122 : List PV) : exec (f54v1_E k c54v1 c79v1 c80) f54v1_cw7 (purgeK (f54v1_E k c54v1 c79v1 c80) f54v1_cw7 (loopK NX_w7 (kont (f54v1_E k c54v1 c79v1 c80) f54v1_code [1, 1, 1, 1, 0, 1, 0] (endK (f54v1_E k c54v1 c79v1 c80) Try.f54 [2000000, 2000001] f54v1_un retF)))) (f54v1_hw7_0 p116 n121 l122) = f54v1_w7b0N k c54v1 c79v1 c80 (fun y0 => retF y0) (fun n121 l122 => NX_w7 (f54v1_hw7_0 p116 n121 l122)) p116 n121 l122 :=
  (f54v1_w7b0_mem k c54v1 c79v1 c80 retF NX_w7 p116 n121 l122)

noncomputable def f54v1_w7B (k : Nat) (c54v1 : PV → (List PV) → ((List PV) → R) → R) (c79v1 : (List Int) → (List PV) → (Int → PV → (List PV) → R) → R) (c80 : PV → (PV → R) → R) (ret0 : (List PV) → R) (p116 : PV) (nx : Int × (List PV) → R) : Int × (List PV) → R := (fun s => f54v1_w7b0N k c54v1 c79v1 c80 ret0 (fun n121 l122 => nx (n121, l122)) p116 s.1 s.2)
noncomputable def f54v1_w7N (k : Nat) (c54v1 : PV → (List PV) → ((List PV) → R) → R) (c79v1 : (List Int) → (List PV) → (Int → PV → (List PV) → R) → R) (c80 : PV → (PV → R) → R) (ret0 : (List PV) → R) (p116 : PV) (n121 : Int) (l122 : List PV) : R := loopR (f54v1_w7B k c54v1 c79v1 c80 ret0 p116) k (n121, l122)
theorem f54v1_w7_eq (k : Nat) (c54v1 : PV → (List PV) → ((List PV) → R) → R) (c79v1 : (List Int) → (List PV) → (Int → PV → (List PV) → R) → R) (c80 : PV → (PV → R) → R) (retF : (List PV) → R) (p116 : PV) (n121 : Int) (l122 : List PV) : f54v1_w7A k c54v1 c79v1 c80 retF p116 n121 l122 = f54v1_w7N k c54v1 c79v1 c80 (fun y0 => retF y0) p116 n121 l122 :=
  Eq.mp (by kernel_rfl) (loop_sim (E := (f54v1_E k c54v1 c79v1 c80)) (c := f54v1_cw7) (K := (kont (f54v1_E k c54v1 c79v1 c80) f54v1_code [1, 1, 1, 1, 0, 1, 0] (endK (f54v1_E k c54v1 c79v1 c80) Try.f54 [2000000, 2000001] f54v1_un retF))) (S := Int × (List PV)) (fun s => f54v1_hw7_0 p116 s.1 s.2) (f54v1_w7B k c54v1 c79v1 c80 (fun y0 => retF y0) p116) (fun NX s => by
    exact Eq.mp (by kernel_rfl) (f54v1_w7b0_eq k c54v1 c79v1 c80 retF NX p116 s.1 s.2)) k (n121, l122))

noncomputable def f54v1_cw8 : Code := subC f54v1_code [1, 1, 1, 1, 0, 1, 0, 0]
noncomputable def f54v1_hw8_0 (p134 : PV) (n139 : Int) (l140 : List PV) : St := ⟨[.ptr 2000000 [], .dead, .dead, .dead, .dead, .str [62], .dead, .dead, .dead, .dead, .dead, .dead, .dead, .dead, .dead, .dead, .dead, .dead, .dead, .dead, .dead, .dead, .dead, .dead, .dead, .dead, .dead, .dead, .dead, .dead, .dead, .dead, .dead, .dead, .dead, .dead, .dead, .dead, .dead, .dead, .dead, .dead, .dead, .dead, .dead, .dead, .dead, .dead, .dead, .val 37 p134, .int .i64 (List.length (PV.els p134) : Int), .int .i64 n139, .dead, .dead, .dead, .dead, .dead, .dead, .dead, .dead, .dead, .dead, .dead, .dead, .dead, .dead, .dead], [(2000000, .box 97 (.agg 97 [.ptr 2000000 [], .own 36 2000001])), (2000001, .row 5 l140)]⟩
noncomputable def f54v1_w8A (k : Nat) (c54v1 : PV → (List PV) → ((List PV) → R) → R) (c79v1 : (List Int) → (List PV) → (Int → PV → (List PV) → R) → R) (c80 : PV → (PV → R) → R) (retF : (List PV) → R) (p134 : PV) (n139 : Int) (l140 : List PV) : R := loopM (f54v1_E k c54v1 c79v1 c80) f54v1_cw8 (kont (f54v1_E k c54v1 c79v1 c80) f54v1_code [1, 1, 1, 1, 0, 1, 0] (endK (f54v1_E k c54v1 c79v1 c80) Try.f54 [2000000, 2000001] f54v1_un retF)) k (f54v1_hw8_0 p134 n139 l140)
noncomputable def f54v1_w8b0 (c54v1 : PV → (List PV) → ((List PV) → R) → R) (c79v1 : (List Int) → (List PV) → (Int → PV → (List PV) → R) → R) (c80 : PV → (PV → R) → R) (ret0 : (List PV) → R) (next_w8_0 : Int → (List PV) → R) (p134 : PV) (n139 : Int) (l140 : List PV) : R :=
  bif (decide (n139 < (List.length (PV.els p134) : Int))) then
    bif (true && decide ((0 : Int) ≤ n139) && decide (n139 < (List.length (PV.els p134) : Int))) then
      bif (decide ((0 : Int) < n139)) then
        c79v1 [44] l140 fun n141 p142 l143 =>
        c54v1 (List.getD (PV.els p134) (n139).toNat PV.nil) l143 fun l144 =>
        next_w8_0 (IntKind.wrap .i64 (n139 + (1 : Int))) l144
      else c54v1 (List.getD (PV.els p134) (n139).toNat PV.nil) l140 fun l145 =>
      next_w8_0 (IntKind.wrap .i64 (n139 + (1 : Int))) l145
    else none
  else c79v1 [62] l140 fun n146 p147 l148 =>
  ret0 l148

theorem f54v1_w8b0_mem (k : Nat) (c54v1 : PV → (List PV) → ((List PV) → R) → R) (c79v1 : (List Int) → (List PV) → (Int → PV → (List PV) → R) → R) (c80 : PV → (PV → R) → R) (retF : (List PV) → R) (NX_w8 : St → R) (p134 : PV) (n139 : Int) (l140 : List PV) : exec (f54v1_E k c54v1 c79v1 c80) f54v1_cw8 (purgeK (f54v1_E k c54v1 c79v1 c80) f54v1_cw8 (loopK NX_w8 (kont (f54v1_E k c54v1 c79v1 c80) f54v1_code [1, 1, 1, 1, 0, 1, 0] (endK (f54v1_E k c54v1 c79v1 c80) Try.f54 [2000000, 2000001] f54v1_un retF)))) (f54v1_hw8_0 p134 n139 l140) = f54v1_w8b0 c54v1 c79v1 c80 (fun y0 => retF y0) (fun n139 l140 => NX_w8 (f54v1_hw8_0 p134 n139 l140)) p134 n139 l140 := by kernel_rfl

noncomputable def f54v1_w8b0N (k : Nat) (c54v1 : PV → (List PV) → ((List PV) → R) → R) (c79v1 : (List Int) → (List PV) → (Int → PV → (List PV) → R) → R) (c80 : PV → (PV → R) → R) (ret0 : (List PV) → R) (next_w8_0 : Int → (List PV) → R) (p134 : PV) (n139 : Int) (l140 : List PV) : R :=
  f54v1_w8b0 c54v1 c79v1 c80 ret0 next_w8_0 p134 n139 l140
theorem f54v1_w8b0_eq (k : Nat) (c54v1 : PV → (List PV) → ((List PV) → R) → R) (c79v1 : (List Int) → (List PV) → (Int → PV → (List PV) → R) → R) (c80 : PV → (PV → R) → R) (retF : (List PV) → R) (NX_w8 : St → R) (p134 : PV) (n139 : Int) (l140 : List PV) : exec (f54v1_E k c54v1 c79v1 c80) f54v1_cw8 (purgeK (f54v1_E k c54v1 c79v1 c80) f54v1_cw8 (loopK NX_w8 (kont (f54v1_E k c54v1 c79v1 c80) f54v1_code [1, 1, 1, 1, 0, 1, 0] (endK (f54v1_E k c54v1 c79v1 c80) Try.f54 [2000000, 2000001] f54v1_un retF)))) (f54v1_hw8_0 p134 n139 l140) = f54v1_w8b0N k c54v1 c79v1 c80 (fun y0 => retF y0) (fun n139 l140 => NX_w8 (f54v1_hw8_0 p134 n139 l140)) p134 n139 l140 :=
  (f54v1_w8b0_mem k c54v1 c79v1 c80 retF NX_w8 p134 n139 l140)

noncomputable def f54v1_w8B (k : Nat) (c54v1 : PV → (List PV) → ((List PV) → R) → R) (c79v1 : (List Int) → (List PV) → (Int → PV → (List PV) → R) → R) (c80 : PV → (PV → R) → R) (ret0 : (List PV) → R) (p134 : PV) (nx : Int × (List PV) → R) : Int × (List PV) → R := (fun s => f54v1_w8b0N k c54v1 c79v1 c80 ret0 (fun n139 l140 => nx (n139, l140)) p134 s.1 s.2)
noncomputable def f54v1_w8N (k : Nat) (c54v1 : PV → (List PV) → ((List PV) → R) → R) (c79v1 : (List Int) → (List PV) → (Int → PV → (List PV) → R) → R) (c80 : PV → (PV → R) → R) (ret0 : (List PV) → R) (p134 : PV) (n139 : Int) (l140 : List PV) : R := loopR (f54v1_w8B k c54v1 c79v1 c80 ret0 p134) k (n139, l140)
theorem f54v1_w8_eq (k : Nat) (c54v1 : PV → (List PV) → ((List PV) → R) → R) (c79v1 : (List Int) → (List PV) → (Int → PV → (List PV) → R) → R) (c80 : PV → (PV → R) → R) (retF : (List PV) → R) (p134 : PV) (n139 : Int) (l140 : List PV) : f54v1_w8A k c54v1 c79v1 c80 retF p134 n139 l140 = f54v1_w8N k c54v1 c79v1 c80 (fun y0 => retF y0) p134 n139 l140 :=
  Eq.mp (by kernel_rfl) (loop_sim (E := (f54v1_E k c54v1 c79v1 c80)) (c := f54v1_cw8) (K := (kont (f54v1_E k c54v1 c79v1 c80) f54v1_code [1, 1, 1, 1, 0, 1, 0] (endK (f54v1_E k c54v1 c79v1 c80) Try.f54 [2000000, 2000001] f54v1_un retF))) (S := Int × (List PV)) (fun s => f54v1_hw8_0 p134 s.1 s.2) (f54v1_w8B k c54v1 c79v1 c80 (fun y0 => retF y0) p134) (fun NX s => by
    exact Eq.mp (by kernel_rfl) (f54v1_w8b0_eq k c54v1 c79v1 c80 retF NX p134 s.1 s.2)) k (n139, l140))

noncomputable def f54v1_e (c54v1 : PV → (List PV) → ((List PV) → R) → R) (c79v1 : (List Int) → (List PV) → (Int → PV → (List PV) → R) → R) (c80 : PV → (PV → R) → R) (ret0 : (List PV) → R) (w1 : PV → Int → (List PV) → R) (w3 : PV → Int → (List PV) → R) (w4 : PV → Int → (List PV) → R) (w7 : PV → Int → (List PV) → R) (w8 : PV → Int → (List PV) → R) (p1 : PV) (l2 : List PV) : R :=
  bif (decide ((PV.num (PV.fld p1 0)) = (1 : Int))) then
    c79v1 [69] l2 fun n3 p4 l5 =>
    c80 p1 fun p6 =>
    w1 p6 0 l5
  else bif (decide ((PV.num (PV.fld p1 0)) = (2 : Int))) then
    bif (decide ((0 : Int) ≤ (Int.fdiv (PV.num (PV.fld p1 1)) (2 ^ (min ((4 : Int)).toNat 8)))) && decide ((Int.fdiv (PV.num (PV.fld p1 1)) (2 ^ (min ((4 : Int)).toNat 8))) ≤ (IntKind.wrap .u8 ((Int.fdiv (PV.num (PV.fld p1 1)) (2 ^ (min ((4 : Int)).toNat 8))) + (1 : Int)))) && decide ((IntKind.wrap .u8 ((Int.fdiv (PV.num (PV.fld p1 1)) (2 ^ (min ((4 : Int)).toNat 8))) + (1 : Int))) ≤ (List.length [48, 49, 50, 51, 52, 53, 54, 55, 56, 57, 97, 98, 99, 100, 101, 102] : Int))) then
      let s21 : List Int := (List.drop ((Int.fdiv (PV.num (PV.fld p1 1)) (2 ^ (min ((4 : Int)).toNat 8)))).toNat (List.take ((IntKind.wrap .u8 ((Int.fdiv (PV.num (PV.fld p1 1)) (2 ^ (min ((4 : Int)).toNat 8))) + (1 : Int)))).toNat [48, 49, 50, 51, 52, 53, 54, 55, 56, 57, 97, 98, 99, 100, 101, 102]))
      bif (decide ((0 : Int) ≤ (intBit .and .u8 (PV.num (PV.fld p1 1)) 15)) && decide ((intBit .and .u8 (PV.num (PV.fld p1 1)) 15) ≤ (IntKind.wrap .u8 ((intBit .and .u8 (PV.num (PV.fld p1 1)) 15) + (1 : Int)))) && decide ((IntKind.wrap .u8 ((intBit .and .u8 (PV.num (PV.fld p1 1)) 15) + (1 : Int))) ≤ (List.length [48, 49, 50, 51, 52, 53, 54, 55, 56, 57, 97, 98, 99, 100, 101, 102] : Int))) then
        let s22 : List Int := (List.drop ((intBit .and .u8 (PV.num (PV.fld p1 1)) 15)).toNat (List.take ((IntKind.wrap .u8 ((intBit .and .u8 (PV.num (PV.fld p1 1)) 15) + (1 : Int)))).toNat [48, 49, 50, 51, 52, 53, 54, 55, 56, 57, 97, 98, 99, 100, 101, 102]))
        bif (decide (List.length s21 + List.length s22 ≤ 4611686018427387904)) then
          c79v1 (s21 ++ s22) l2 fun n23 p24 l25 =>
          c80 p1 fun p26 =>
          w1 p26 0 l25
        else none
      else none
    else none
  else bif (decide ((PV.num (PV.fld p1 0)) = (3 : Int))) then
    bif (decide ((List.length (PV.els (PV.fld p1 2)) : Int) < (2 : Int))) then
      c79v1 [40] l2 fun n41 p42 l43 =>
      c80 p1 fun p44 =>
      w3 p44 0 l43
    else c79v1 [40] l2 fun n59 p60 l61 =>
    c80 p1 fun p62 =>
    w4 p62 0 l61
  else bif (decide ((PV.num (PV.fld p1 0)) = (4 : Int))) then
    c79v1 [76] l2 fun n77 p78 l79 =>
    c80 p1 fun p80 =>
    w1 p80 0 l79
  else bif (decide ((PV.num (PV.fld p1 0)) = (5 : Int))) then
    c79v1 [82] l2 fun n95 p96 l97 =>
    c80 p1 fun p98 =>
    w1 p98 0 l97
  else bif (decide ((PV.num (PV.fld p1 0)) = (6 : Int))) then
    c79v1 [91] l2 fun n113 p114 l115 =>
    c80 p1 fun p116 =>
    w7 p116 0 l115
  else bif (decide ((PV.num (PV.fld p1 0)) = (7 : Int))) then
    c79v1 [60] l2 fun n131 p132 l133 =>
    c80 p1 fun p134 =>
    w8 p134 0 l133
  else c79v1 [63] l2 fun n149 p150 l151 =>
  c80 p1 fun p152 =>
  w1 p152 0 l151

theorem f54v1_e_mem (k : Nat) (c54v1 : PV → (List PV) → ((List PV) → R) → R) (c79v1 : (List Int) → (List PV) → (Int → PV → (List PV) → R) → R) (c80 : PV → (PV → R) → R) (retF : (List PV) → R) (p1 : PV) (l2 : List PV) : exec (f54v1_E k c54v1 c79v1 c80) f54v1_code (endK (f54v1_E k c54v1 c79v1 c80) Try.f54 [2000000, 2000001] f54v1_un retF) ⟨[.ptr 2000000 [], .val 39 p1, .undef, .undef, .undef, .undef, .undef, .undef, .undef, .undef, .undef, .undef, .undef, .undef, .undef, .undef, .undef, .undef, .undef, .undef, .undef, .undef, .undef, .undef, .undef, .undef, .undef, .undef, .undef, .undef, .undef, .undef, .undef, .undef, .undef, .undef, .undef, .undef, .undef, .undef, .undef, .undef, .undef, .undef, .undef, .undef, .undef, .undef, .undef, .undef, .undef, .undef, .undef, .undef, .undef, .undef, .undef, .undef, .undef, .undef, .undef, .undef, .undef, .undef, .undef, .undef, .undef], [(2000000, .box 97 (.agg 97 [.ptr 2000000 [], .own 36 2000001])), (2000001, .row 5 l2)]⟩ = f54v1_e c54v1 c79v1 c80 (fun y0 => retF y0) (fun p6 n11 l12 => f54v1_w1A k c54v1 c79v1 c80 retF p6 n11 l12) (fun p44 n49 l50 => f54v1_w3A k c54v1 c79v1 c80 retF p44 n49 l50) (fun p62 n67 l68 => f54v1_w4A k c54v1 c79v1 c80 retF p62 n67 l68) (fun p116 n121 l122 => f54v1_w7A k c54v1 c79v1 c80 retF p116 n121 l122) (fun p134 n139 l140 => f54v1_w8A k c54v1 c79v1 c80 retF p134 n139 l140) p1 l2 := by kernel_rfl

noncomputable def f54v1_N (k : Nat) (c54v1 : PV → (List PV) → ((List PV) → R) → R) (c79v1 : (List Int) → (List PV) → (Int → PV → (List PV) → R) → R) (c80 : PV → (PV → R) → R) (ret0 : (List PV) → R) (p1 : PV) (l2 : List PV) : R :=
  f54v1_e c54v1 c79v1 c80 ret0 (fun p6 n11 l12 => f54v1_w1N k c54v1 c79v1 c80 ret0 p6 n11 l12) (fun p44 n49 l50 => f54v1_w3N k c54v1 c79v1 c80 ret0 p44 n49 l50) (fun p62 n67 l68 => f54v1_w4N k c54v1 c79v1 c80 ret0 p62 n67 l68) (fun p116 n121 l122 => f54v1_w7N k c54v1 c79v1 c80 ret0 p116 n121 l122) (fun p134 n139 l140 => f54v1_w8N k c54v1 c79v1 c80 ret0 p134 n139 l140) p1 l2
theorem f54v1_eq (k : Nat) (c54v1 : PV → (List PV) → ((List PV) → R) → R) (c79v1 : (List Int) → (List PV) → (Int → PV → (List PV) → R) → R) (c80 : PV → (PV → R) → R) (retF : (List PV) → R) (p1 : PV) (l2 : List PV) : exec (f54v1_E k c54v1 c79v1 c80) f54v1_code (endK (f54v1_E k c54v1 c79v1 c80) Try.f54 [2000000, 2000001] f54v1_un retF) ⟨[.ptr 2000000 [], .val 39 p1, .undef, .undef, .undef, .undef, .undef, .undef, .undef, .undef, .undef, .undef, .undef, .undef, .undef, .undef, .undef, .undef, .undef, .undef, .undef, .undef, .undef, .undef, .undef, .undef, .undef, .undef, .undef, .undef, .undef, .undef, .undef, .undef, .undef, .undef, .undef, .undef, .undef, .undef, .undef, .undef, .undef, .undef, .undef, .undef, .undef, .undef, .undef, .undef, .undef, .undef, .undef, .undef, .undef, .undef, .undef, .undef, .undef, .undef, .undef, .undef, .undef, .undef, .undef, .undef, .undef], [(2000000, .box 97 (.agg 97 [.ptr 2000000 [], .own 36 2000001])), (2000001, .row 5 l2)]⟩ = f54v1_N k c54v1 c79v1 c80 (fun y0 => retF y0) p1 l2 :=
  (f54v1_e_mem k c54v1 c79v1 c80 retF p1 l2).trans (by rw [show (fun p6 n11 l12 => f54v1_w1A k c54v1 c79v1 c80 retF p6 n11 l12) = (fun p6 n11 l12 => f54v1_w1N k c54v1 c79v1 c80 (fun y0 => retF y0) p6 n11 l12) from funext fun p6 => funext fun n11 => funext fun l12 => f54v1_w1_eq k c54v1 c79v1 c80 retF p6 n11 l12, show (fun p44 n49 l50 => f54v1_w3A k c54v1 c79v1 c80 retF p44 n49 l50) = (fun p44 n49 l50 => f54v1_w3N k c54v1 c79v1 c80 (fun y0 => retF y0) p44 n49 l50) from funext fun p44 => funext fun n49 => funext fun l50 => f54v1_w3_eq k c54v1 c79v1 c80 retF p44 n49 l50, show (fun p62 n67 l68 => f54v1_w4A k c54v1 c79v1 c80 retF p62 n67 l68) = (fun p62 n67 l68 => f54v1_w4N k c54v1 c79v1 c80 (fun y0 => retF y0) p62 n67 l68) from funext fun p62 => funext fun n67 => funext fun l68 => f54v1_w4_eq k c54v1 c79v1 c80 retF p62 n67 l68, show (fun p116 n121 l122 => f54v1_w7A k c54v1 c79v1 c80 retF p116 n121 l122) = (fun p116 n121 l122 => f54v1_w7N k c54v1 c79v1 c80 (fun y0 => retF y0) p116 n121 l122) from funext fun p116 => funext fun n121 => funext fun l122 => f54v1_w7_eq k c54v1 c79v1 c80 retF p116 n121 l122, show (fun p134 n139 l140 => f54v1_w8A k c54v1 c79v1 c80 retF p134 n139 l140) = (fun p134 n139 l140 => f54v1_w8N k c54v1 c79v1 c80 (fun y0 => retF y0) p134 n139 l140) from funext fun p134 => funext fun n139 => funext fun l140 => f54v1_w8_eq k c54v1 c79v1 c80 retF p134 n139 l140]; rfl)

noncomputable def G54v1 : Nat → PV → (List PV) → ((List PV) → R) → R
  | 0, _, _, _ => none
  | k + 1, p1, l2, ret0 => f54v1_N k (G54v1 k) (G79v1 k) (G80 k) ret0 p1 l2
theorem S54v1 : ∀ k, Snd Try.prog 54 f54v1_I f54v1_O (fun x ret => G54v1 k x.1 x.2 (fun y0 => ret y0))
  | 0 => snd_none
  | k + 1 => snd_step (E := f54v1_E k (G54v1 k) (G79v1 k) (G80 k)) rfl laidOut noNums (orc_ok (S54v1 k).o f54v1_D_ok (orc_ok (S79v1 k).o f79v1_D_ok (orc_ok (S80 k).o f80_D_ok orc0_ok))) (f := 54) (fn := Try.f54) (code := f54v1_code) Try.func54 (by kernel_rfl) (drawsOk_of laidOut (orc_ok (S54v1 k).o f54v1_D_ok (orc_ok (S79v1 k).o f79v1_D_ok (orc_ok (S80 k).o f80_D_ok orc0_ok))) mixed (by kernel_rfl)) f54v1_un f54v1_un_ok [2000000, 2000001] (fun _ => rfl)
      (fun x ret => f54v1_eq k (G54v1 k) (G79v1 k) (G80 k) ret x.1 x.2)

/- catchpole/value.text -/
noncomputable def f54_I : PV × PV × (List PV) → List SV × Obs := fun x => ([.ptr 2000000 [], .val 39 x.1], [(2000000, .box 97 (.agg 97 [.val 95 x.2.1, .own 36 2000001])), (2000001, .row 5 x.2.2)])
noncomputable def f54_D : List SV → Obs → Option (PV × PV × (List PV))
  | [.ptr 2000000 [], .val 39 p1], [(2000000, .box 97 (.agg 97 [.val 95 p2, .own 36 2000001])), (2000001, .row 5 l3)] => some (p1, p2, l3)
  | _, _ => none
theorem f54_D_ok (args : List SV) (B : Obs) (x : PV × PV × (List PV)) (h : f54_D args B = some x) : f54_I x = (args, B) := by
  unfold f54_D at h
  split at h
  · injection h with h; subst h; rfl
  · cases h
noncomputable def f54_O : (List PV) → Out := (fun y => ([], [(2000000, .box 97 (.agg 97 [.ptr 2000000 [], .own 36 2000001])), (2000001, .row 5 y)]))
noncomputable def f54_un : Out → Option ((List PV))
  | ([], [(2000000, .box 97 (.agg 97 [.ptr 2000000 [], .own 36 2000001])), (2000001, .row 5 y0)]) => some y0
  | _ => none
theorem f54_un_ok (o : Out) (y : (List PV)) (h : f54_un o = some y) : o = f54_O y := by
  unfold f54_un at h
  split at h
  · injection h with h; subst h; rfl
  · cases h
noncomputable def f54_msk : Nat → Option (List Nat) := fun key => bif key == 63 then some [0, 5, 49, 50, 51] else none
noncomputable def f54_C (c54v1 : PV → (List PV) → ((List PV) → R) → R) (c79 : (List Int) → PV → (List PV) → (Int → PV → (List PV) → R) → R) (c79v1 : (List Int) → (List PV) → (Int → PV → (List PV) → R) → R) (c80 : PV → (PV → R) → R) : Oracle := orc 54 f54v1_D f54v1_O (fun x ret => c54v1 x.1 x.2 (fun y0 => ret y0)) <| orc 79 f79_D f79_O (fun x ret => c79 x.1 x.2.1 x.2.2 (fun y0 y1 y2 => ret (y0, y1, y2))) <| orc 79 f79v1_D f79v1_O (fun x ret => c79v1 x.1 x.2 (fun y0 y1 y2 => ret (y0, y1, y2))) <| orc 80 f80_D f80_O (fun x ret => c80 x (fun y0 => ret y0)) <| orc0
noncomputable def f54_E (k : Nat) (c54v1 : PV → (List PV) → ((List PV) → R) → R) (c79 : (List Int) → PV → (List PV) → (Int → PV → (List PV) → R) → R) (c79v1 : (List Int) → (List PV) → (Int → PV → (List PV) → R) → R) (c80 : PV → (PV → R) → R) : Env := { P := Try.prog, nilOwn := fun d => false, fldOwn := fun d i => false, ownPar := ownPars, ownRet := false, hpD := fun d => false, hpF := hpFs, hpNew := false, mask := f54_msk, fuel := k, C := f54_C c54v1 c79 c79v1 c80 }
noncomputable def f54_code : Code := Try.f54.body.getD .skip
noncomputable def f54_cw1 : Code := subC f54_code [1, 1, 1, 1, 0, 1, 0, 0]
noncomputable def f54_hw1_0 (p7 : PV) (n12 : Int) (l13 : List PV) : St := ⟨[.ptr 2000000 [], .dead, .dead, .dead, .dead, .str [], .dead, .dead, .dead, .dead, .dead, .dead, .dead, .dead, .dead, .dead, .dead, .dead, .dead, .dead, .dead, .dead, .dead, .dead, .dead, .dead, .dead, .dead, .dead, .dead, .dead, .dead, .dead, .dead, .dead, .dead, .dead, .dead, .dead, .dead, .dead, .dead, .dead, .dead, .dead, .dead, .dead, .dead, .dead, .val 37 p7, .int .i64 (List.length (PV.els p7) : Int), .int .i64 n12, .dead, .dead, .dead, .dead, .dead, .dead, .dead, .dead, .dead, .dead, .dead, .dead, .dead, .dead, .dead], [(2000000, .box 97 (.agg 97 [.ptr 2000000 [], .own 36 2000001])), (2000001, .row 5 l13)]⟩
noncomputable def f54_w1A (k : Nat) (c54v1 : PV → (List PV) → ((List PV) → R) → R) (c79 : (List Int) → PV → (List PV) → (Int → PV → (List PV) → R) → R) (c79v1 : (List Int) → (List PV) → (Int → PV → (List PV) → R) → R) (c80 : PV → (PV → R) → R) (retF : (List PV) → R) (p7 : PV) (n12 : Int) (l13 : List PV) : R := loopM (f54_E k c54v1 c79 c79v1 c80) f54_cw1 (kont (f54_E k c54v1 c79 c79v1 c80) f54_code [1, 1, 1, 1, 0, 1, 0] (endK (f54_E k c54v1 c79 c79v1 c80) Try.f54 [2000000, 2000001] f54_un retF)) k (f54_hw1_0 p7 n12 l13)
noncomputable def f54_w1b0 (c54v1 : PV → (List PV) → ((List PV) → R) → R) (c79 : (List Int) → PV → (List PV) → (Int → PV → (List PV) → R) → R) (c79v1 : (List Int) → (List PV) → (Int → PV → (List PV) → R) → R) (c80 : PV → (PV → R) → R) (ret0 : (List PV) → R) (next_w1_0 : Int → (List PV) → R) (p7 : PV) (n12 : Int) (l13 : List PV) : R :=
  bif (decide (n12 < (List.length (PV.els p7) : Int))) then
    bif (true && decide ((0 : Int) ≤ n12) && decide (n12 < (List.length (PV.els p7) : Int))) then
      bif (decide ((0 : Int) < n12)) then
        c79v1 [44] l13 fun n14 p15 l16 =>
        c54v1 (List.getD (PV.els p7) (n12).toNat PV.nil) l16 fun l17 =>
        next_w1_0 (IntKind.wrap .i64 (n12 + (1 : Int))) l17
      else c54v1 (List.getD (PV.els p7) (n12).toNat PV.nil) l13 fun l18 =>
      next_w1_0 (IntKind.wrap .i64 (n12 + (1 : Int))) l18
    else none
  else c79v1 [] l13 fun n19 p20 l21 =>
  ret0 l21

theorem f54_w1b0_mem (k : Nat) (c54v1 : PV → (List PV) → ((List PV) → R) → R) (c79 : (List Int) → PV → (List PV) → (Int → PV → (List PV) → R) → R) (c79v1 : (List Int) → (List PV) → (Int → PV → (List PV) → R) → R) (c80 : PV → (PV → R) → R) (retF : (List PV) → R) (NX_w1 : St → R) (p7 : PV) (n12 : Int) (l13 : List PV) : exec (f54_E k c54v1 c79 c79v1 c80) f54_cw1 (purgeK (f54_E k c54v1 c79 c79v1 c80) f54_cw1 (loopK NX_w1 (kont (f54_E k c54v1 c79 c79v1 c80) f54_code [1, 1, 1, 1, 0, 1, 0] (endK (f54_E k c54v1 c79 c79v1 c80) Try.f54 [2000000, 2000001] f54_un retF)))) (f54_hw1_0 p7 n12 l13) = f54_w1b0 c54v1 c79 c79v1 c80 (fun y0 => retF y0) (fun n12 l13 => NX_w1 (f54_hw1_0 p7 n12 l13)) p7 n12 l13 := by kernel_rfl

noncomputable def f54_w1b0N (k : Nat) (c54v1 : PV → (List PV) → ((List PV) → R) → R) (c79 : (List Int) → PV → (List PV) → (Int → PV → (List PV) → R) → R) (c79v1 : (List Int) → (List PV) → (Int → PV → (List PV) → R) → R) (c80 : PV → (PV → R) → R) (ret0 : (List PV) → R) (next_w1_0 : Int → (List PV) → R) (p7 : PV) (n12 : Int) (l13 : List PV) : R :=
  f54_w1b0 c54v1 c79 c79v1 c80 ret0 next_w1_0 p7 n12 l13
theorem f54_w1b0_eq (k : Nat) (c54v1 : PV → (List PV) → ((List PV) → R) → R) (c79 : (List Int) → PV → (List PV) → (Int → PV → (List PV) → R) → R) (c79v1 : (List Int) → (List PV) → (Int → PV → (List PV) → R) → R) (c80 : PV → (PV → R) → R) (retF : (List PV) → R) (NX_w1 : St → R) (p7 : PV) (n12 : Int) (l13 : List PV) : exec (f54_E k c54v1 c79 c79v1 c80) f54_cw1 (purgeK (f54_E k c54v1 c79 c79v1 c80) f54_cw1 (loopK NX_w1 (kont (f54_E k c54v1 c79 c79v1 c80) f54_code [1, 1, 1, 1, 0, 1, 0] (endK (f54_E k c54v1 c79 c79v1 c80) Try.f54 [2000000, 2000001] f54_un retF)))) (f54_hw1_0 p7 n12 l13) = f54_w1b0N k c54v1 c79 c79v1 c80 (fun y0 => retF y0) (fun n12 l13 => NX_w1 (f54_hw1_0 p7 n12 l13)) p7 n12 l13 :=
  (f54_w1b0_mem k c54v1 c79 c79v1 c80 retF NX_w1 p7 n12 l13)

noncomputable def f54_w1B (k : Nat) (c54v1 : PV → (List PV) → ((List PV) → R) → R) (c79 : (List Int) → PV → (List PV) → (Int → PV → (List PV) → R) → R) (c79v1 : (List Int) → (List PV) → (Int → PV → (List PV) → R) → R) (c80 : PV → (PV → R) → R) (ret0 : (List PV) → R) (p7 : PV) (nx : Int × (List PV) → R) : Int × (List PV) → R := (fun s => f54_w1b0N k c54v1 c79 c79v1 c80 ret0 (fun n12 l13 => nx (n12, l13)) p7 s.1 s.2)
noncomputable def f54_w1N (k : Nat) (c54v1 : PV → (List PV) → ((List PV) → R) → R) (c79 : (List Int) → PV → (List PV) → (Int → PV → (List PV) → R) → R) (c79v1 : (List Int) → (List PV) → (Int → PV → (List PV) → R) → R) (c80 : PV → (PV → R) → R) (ret0 : (List PV) → R) (p7 : PV) (n12 : Int) (l13 : List PV) : R := loopR (f54_w1B k c54v1 c79 c79v1 c80 ret0 p7) k (n12, l13)
theorem f54_w1_eq (k : Nat) (c54v1 : PV → (List PV) → ((List PV) → R) → R) (c79 : (List Int) → PV → (List PV) → (Int → PV → (List PV) → R) → R) (c79v1 : (List Int) → (List PV) → (Int → PV → (List PV) → R) → R) (c80 : PV → (PV → R) → R) (retF : (List PV) → R) (p7 : PV) (n12 : Int) (l13 : List PV) : f54_w1A k c54v1 c79 c79v1 c80 retF p7 n12 l13 = f54_w1N k c54v1 c79 c79v1 c80 (fun y0 => retF y0) p7 n12 l13 :=
  Eq.mp (by kernel_rfl) (loop_sim (E := (f54_E k c54v1 c79 c79v1 c80)) (c := f54_cw1) (K := (kont (f54_E k c54v1 c79 c79v1 c80) f54_code [1, 1, 1, 1, 0, 1, 0] (endK (f54_E k c54v1 c79 c79v1 c80) Try.f54 [2000000, 2000001] f54_un retF))) (S := Int × (List PV)) (fun s => f54_hw1_0 p7 s.1 s.2) (f54_w1B k c54v1 c79 c79v1 c80 (fun y0 => retF y0) p7) (fun NX s => by
    exact Eq.mp (by kernel_rfl) (f54_w1b0_eq k c54v1 c79 c79v1 c80 retF NX p7 s.1 s.2)) k (n12, l13))

noncomputable def f54_cw3 : Code := subC f54_code [1, 1, 1, 1, 0, 1, 0, 0]
noncomputable def f54_hw3_0 (p45 : PV) (n50 : Int) (l51 : List PV) : St := ⟨[.ptr 2000000 [], .dead, .dead, .dead, .dead, .str [44, 41], .dead, .dead, .dead, .dead, .dead, .dead, .dead, .dead, .dead, .dead, .dead, .dead, .dead, .dead, .dead, .dead, .dead, .dead, .dead, .dead, .dead, .dead, .dead, .dead, .dead, .dead, .dead, .dead, .dead, .dead, .dead, .dead, .dead, .dead, .dead, .dead, .dead, .dead, .dead, .dead, .dead, .dead, .dead, .val 37 p45, .int .i64 (List.length (PV.els p45) : Int), .int .i64 n50, .dead, .dead, .dead, .dead, .dead, .dead, .dead, .dead, .dead, .dead, .dead, .dead, .dead, .dead, .dead], [(2000000, .box 97 (.agg 97 [.ptr 2000000 [], .own 36 2000001])), (2000001, .row 5 l51)]⟩
noncomputable def f54_w3A (k : Nat) (c54v1 : PV → (List PV) → ((List PV) → R) → R) (c79 : (List Int) → PV → (List PV) → (Int → PV → (List PV) → R) → R) (c79v1 : (List Int) → (List PV) → (Int → PV → (List PV) → R) → R) (c80 : PV → (PV → R) → R) (retF : (List PV) → R) (p45 : PV) (n50 : Int) (l51 : List PV) : R := loopM (f54_E k c54v1 c79 c79v1 c80) f54_cw3 (kont (f54_E k c54v1 c79 c79v1 c80) f54_code [1, 1, 1, 1, 0, 1, 0] (endK (f54_E k c54v1 c79 c79v1 c80) Try.f54 [2000000, 2000001] f54_un retF)) k (f54_hw3_0 p45 n50 l51)
noncomputable def f54_w3b0 (c54v1 : PV → (List PV) → ((List PV) → R) → R) (c79 : (List Int) → PV → (List PV) → (Int → PV → (List PV) → R) → R) (c79v1 : (List Int) → (List PV) → (Int → PV → (List PV) → R) → R) (c80 : PV → (PV → R) → R) (ret0 : (List PV) → R) (next_w3_0 : Int → (List PV) → R) (p45 : PV) (n50 : Int) (l51 : List PV) : R :=
  bif (decide (n50 < (List.length (PV.els p45) : Int))) then
    bif (true && decide ((0 : Int) ≤ n50) && decide (n50 < (List.length (PV.els p45) : Int))) then
      bif (decide ((0 : Int) < n50)) then
        c79v1 [44] l51 fun n52 p53 l54 =>
        c54v1 (List.getD (PV.els p45) (n50).toNat PV.nil) l54 fun l55 =>
        next_w3_0 (IntKind.wrap .i64 (n50 + (1 : Int))) l55
      else c54v1 (List.getD (PV.els p45) (n50).toNat PV.nil) l51 fun l56 =>
      next_w3_0 (IntKind.wrap .i64 (n50 + (1 : Int))) l56
    else none
  else c79v1 [44, 41] l51 fun n57 p58 l59 =>
  ret0 l59

theorem f54_w3b0_mem (k : Nat) (c54v1 : PV → (List PV) → ((List PV) → R) → R) (c79 : (List Int) → PV → (List PV) → (Int → PV → (List PV) → R) → R) (c79v1 : (List Int) → (List PV) → (Int → PV → (List PV) → R) → R) (c80 : PV → (PV → R) → R) (retF : (List PV) → R) (NX_w3 : St → R) (p45 : PV) (n50 : Int) (l51 : List PV) : exec (f54_E k c54v1 c79 c79v1 c80) f54_cw3 (purgeK (f54_E k c54v1 c79 c79v1 c80) f54_cw3 (loopK NX_w3 (kont (f54_E k c54v1 c79 c79v1 c80) f54_code [1, 1, 1, 1, 0, 1, 0] (endK (f54_E k c54v1 c79 c79v1 c80) Try.f54 [2000000, 2000001] f54_un retF)))) (f54_hw3_0 p45 n50 l51) = f54_w3b0 c54v1 c79 c79v1 c80 (fun y0 => retF y0) (fun n50 l51 => NX_w3 (f54_hw3_0 p45 n50 l51)) p45 n50 l51 := by kernel_rfl

noncomputable def f54_w3b0N (k : Nat) (c54v1 : PV → (List PV) → ((List PV) → R) → R) (c79 : (List Int) → PV → (List PV) → (Int → PV → (List PV) → R) → R) (c79v1 : (List Int) → (List PV) → (Int → PV → (List PV) → R) → R) (c80 : PV → (PV → R) → R) (ret0 : (List PV) → R) (next_w3_0 : Int → (List PV) → R) (p45 : PV) (n50 : Int) (l51 : List PV) : R :=
  f54_w3b0 c54v1 c79 c79v1 c80 ret0 next_w3_0 p45 n50 l51
theorem f54_w3b0_eq (k : Nat) (c54v1 : PV → (List PV) → ((List PV) → R) → R) (c79 : (List Int) → PV → (List PV) → (Int → PV → (List PV) → R) → R) (c79v1 : (List Int) → (List PV) → (Int → PV → (List PV) → R) → R) (c80 : PV → (PV → R) → R) (retF : (List PV) → R) (NX_w3 : St → R) (p45 : PV) (n50 : Int) (l51 : List PV) : exec (f54_E k c54v1 c79 c79v1 c80) f54_cw3 (purgeK (f54_E k c54v1 c79 c79v1 c80) f54_cw3 (loopK NX_w3 (kont (f54_E k c54v1 c79 c79v1 c80) f54_code [1, 1, 1, 1, 0, 1, 0] (endK (f54_E k c54v1 c79 c79v1 c80) Try.f54 [2000000, 2000001] f54_un retF)))) (f54_hw3_0 p45 n50 l51) = f54_w3b0N k c54v1 c79 c79v1 c80 (fun y0 => retF y0) (fun n50 l51 => NX_w3 (f54_hw3_0 p45 n50 l51)) p45 n50 l51 :=
  (f54_w3b0_mem k c54v1 c79 c79v1 c80 retF NX_w3 p45 n50 l51)

noncomputable def f54_w3B (k : Nat) (c54v1 : PV → (List PV) → ((List PV) → R) → R) (c79 : (List Int) → PV → (List PV) → (Int → PV → (List PV) → R) → R) (c79v1 : (List Int) → (List PV) → (Int → PV → (List PV) → R) → R) (c80 : PV → (PV → R) → R) (ret0 : (List PV) → R) (p45 : PV) (nx : Int × (List PV) → R) : Int × (List PV) → R := (fun s => f54_w3b0N k c54v1 c79 c79v1 c80 ret0 (fun n50 l51 => nx (n50, l51)) p45 s.1 s.2)
noncomputable def f54_w3N (k : Nat) (c54v1 : PV → (List PV) → ((List PV) → R) → R) (c79 : (List Int) → PV → (List PV) → (Int → PV → (List PV) → R) → R) (c79v1 : (List Int) → (List PV) → (Int → PV → (List PV) → R) → R) (c80 : PV → (PV → R) → R) (ret0 : (List PV) → R) (p45 : PV) (n50 : Int) (l51 : List PV) : R := loopR (f54_w3B k c54v1 c79 c79v1 c80 ret0 p45) k (n50, l51)
theorem f54_w3_eq (k : Nat) (c54v1 : PV → (List PV) → ((List PV) → R) → R) (c79 : (List Int) → PV → (List PV) → (Int → PV → (List PV) → R) → R) (c79v1 : (List Int) → (List PV) → (Int → PV → (List PV) → R) → R) (c80 : PV → (PV → R) → R) (retF : (List PV) → R) (p45 : PV) (n50 : Int) (l51 : List PV) : f54_w3A k c54v1 c79 c79v1 c80 retF p45 n50 l51 = f54_w3N k c54v1 c79 c79v1 c80 (fun y0 => retF y0) p45 n50 l51 :=
  Eq.mp (by kernel_rfl) (loop_sim (E := (f54_E k c54v1 c79 c79v1 c80)) (c := f54_cw3) (K := (kont (f54_E k c54v1 c79 c79v1 c80) f54_code [1, 1, 1, 1, 0, 1, 0] (endK (f54_E k c54v1 c79 c79v1 c80) Try.f54 [2000000, 2000001] f54_un retF))) (S := Int × (List PV)) (fun s => f54_hw3_0 p45 s.1 s.2) (f54_w3B k c54v1 c79 c79v1 c80 (fun y0 => retF y0) p45) (fun NX s => by
    exact Eq.mp (by kernel_rfl) (f54_w3b0_eq k c54v1 c79 c79v1 c80 retF NX p45 s.1 s.2)) k (n50, l51))

noncomputable def f54_cw4 : Code := subC f54_code [1, 1, 1, 1, 0, 1, 0, 0]
noncomputable def f54_hw4_0 (p63 : PV) (n68 : Int) (l69 : List PV) : St := ⟨[.ptr 2000000 [], .dead, .dead, .dead, .dead, .str [41], .dead, .dead, .dead, .dead, .dead, .dead, .dead, .dead, .dead, .dead, .dead, .dead, .dead, .dead, .dead, .dead, .dead, .dead, .dead, .dead, .dead, .dead, .dead, .dead, .dead, .dead, .dead, .dead, .dead, .dead, .dead, .dead, .dead, .dead, .dead, .dead, .dead, .dead, .dead, .dead, .dead, .dead, .dead, .val 37 p63, .int .i64 (List.length (PV.els p63) : Int), .int .i64 n68, .dead, .dead, .dead, .dead, .dead, .dead, .dead, .dead, .dead, .dead, .dead, .dead, .dead, .dead, .dead], [(2000000, .box 97 (.agg 97 [.ptr 2000000 [], .own 36 2000001])), (2000001, .row 5 l69)]⟩
noncomputable def f54_w4A (k : Nat) (c54v1 : PV → (List PV) → ((List PV) → R) → R) (c79 : (List Int) → PV → (List PV) → (Int → PV → (List PV) → R) → R) (c79v1 : (List Int) → (List PV) → (Int → PV → (List PV) → R) → R) (c80 : PV → (PV → R) → R) (retF : (List PV) → R) (p63 : PV) (n68 : Int) (l69 : List PV) : R := loopM (f54_E k c54v1 c79 c79v1 c80) f54_cw4 (kont (f54_E k c54v1 c79 c79v1 c80) f54_code [1, 1, 1, 1, 0, 1, 0] (endK (f54_E k c54v1 c79 c79v1 c80) Try.f54 [2000000, 2000001] f54_un retF)) k (f54_hw4_0 p63 n68 l69)
noncomputable def f54_w4b0 (c54v1 : PV → (List PV) → ((List PV) → R) → R) (c79 : (List Int) → PV → (List PV) → (Int → PV → (List PV) → R) → R) (c79v1 : (List Int) → (List PV) → (Int → PV → (List PV) → R) → R) (c80 : PV → (PV → R) → R) (ret0 : (List PV) → R) (next_w4_0 : Int → (List PV) → R) (p63 : PV) (n68 : Int) (l69 : List PV) : R :=
  bif (decide (n68 < (List.length (PV.els p63) : Int))) then
    bif (true && decide ((0 : Int) ≤ n68) && decide (n68 < (List.length (PV.els p63) : Int))) then
      bif (decide ((0 : Int) < n68)) then
        c79v1 [44] l69 fun n70 p71 l72 =>
        c54v1 (List.getD (PV.els p63) (n68).toNat PV.nil) l72 fun l73 =>
        next_w4_0 (IntKind.wrap .i64 (n68 + (1 : Int))) l73
      else c54v1 (List.getD (PV.els p63) (n68).toNat PV.nil) l69 fun l74 =>
      next_w4_0 (IntKind.wrap .i64 (n68 + (1 : Int))) l74
    else none
  else c79v1 [41] l69 fun n75 p76 l77 =>
  ret0 l77

theorem f54_w4b0_mem (k : Nat) (c54v1 : PV → (List PV) → ((List PV) → R) → R) (c79 : (List Int) → PV → (List PV) → (Int → PV → (List PV) → R) → R) (c79v1 : (List Int) → (List PV) → (Int → PV → (List PV) → R) → R) (c80 : PV → (PV → R) → R) (retF : (List PV) → R) (NX_w4 : St → R) (p63 : PV) (n68 : Int) (l69 : List PV) : exec (f54_E k c54v1 c79 c79v1 c80) f54_cw4 (purgeK (f54_E k c54v1 c79 c79v1 c80) f54_cw4 (loopK NX_w4 (kont (f54_E k c54v1 c79 c79v1 c80) f54_code [1, 1, 1, 1, 0, 1, 0] (endK (f54_E k c54v1 c79 c79v1 c80) Try.f54 [2000000, 2000001] f54_un retF)))) (f54_hw4_0 p63 n68 l69) = f54_w4b0 c54v1 c79 c79v1 c80 (fun y0 => retF y0) (fun n68 l69 => NX_w4 (f54_hw4_0 p63 n68 l69)) p63 n68 l69 := by kernel_rfl

noncomputable def f54_w4b0N (k : Nat) (c54v1 : PV → (List PV) → ((List PV) → R) → R) (c79 : (List Int) → PV → (List PV) → (Int → PV → (List PV) → R) → R) (c79v1 : (List Int) → (List PV) → (Int → PV → (List PV) → R) → R) (c80 : PV → (PV → R) → R) (ret0 : (List PV) → R) (next_w4_0 : Int → (List PV) → R) (p63 : PV) (n68 : Int) (l69 : List PV) : R :=
  f54_w4b0 c54v1 c79 c79v1 c80 ret0 next_w4_0 p63 n68 l69
theorem f54_w4b0_eq (k : Nat) (c54v1 : PV → (List PV) → ((List PV) → R) → R) (c79 : (List Int) → PV → (List PV) → (Int → PV → (List PV) → R) → R) (c79v1 : (List Int) → (List PV) → (Int → PV → (List PV) → R) → R) (c80 : PV → (PV → R) → R) (retF : (List PV) → R) (NX_w4 : St → R) (p63 : PV) (n68 : Int) (l69 : List PV) : exec (f54_E k c54v1 c79 c79v1 c80) f54_cw4 (purgeK (f54_E k c54v1 c79 c79v1 c80) f54_cw4 (loopK NX_w4 (kont (f54_E k c54v1 c79 c79v1 c80) f54_code [1, 1, 1, 1, 0, 1, 0] (endK (f54_E k c54v1 c79 c79v1 c80) Try.f54 [2000000, 2000001] f54_un retF)))) (f54_hw4_0 p63 n68 l69) = f54_w4b0N k c54v1 c79 c79v1 c80 (fun y0 => retF y0) (fun n68 l69 => NX_w4 (f54_hw4_0 p63 n68 l69)) p63 n68 l69 :=
  (f54_w4b0_mem k c54v1 c79 c79v1 c80 retF NX_w4 p63 n68 l69)

noncomputable def f54_w4B (k : Nat) (c54v1 : PV → (List PV) → ((List PV) → R) → R) (c79 : (List Int) → PV → (List PV) → (Int → PV → (List PV) → R) → R) (c79v1 : (List Int) → (List PV) → (Int → PV → (List PV) → R) → R) (c80 : PV → (PV → R) → R) (ret0 : (List PV) → R) (p63 : PV) (nx : Int × (List PV) → R) : Int × (List PV) → R := (fun s => f54_w4b0N k c54v1 c79 c79v1 c80 ret0 (fun n68 l69 => nx (n68, l69)) p63 s.1 s.2)
noncomputable def f54_w4N (k : Nat) (c54v1 : PV → (List PV) → ((List PV) → R) → R) (c79 : (List Int) → PV → (List PV) → (Int → PV → (List PV) → R) → R) (c79v1 : (List Int) → (List PV) → (Int → PV → (List PV) → R) → R) (c80 : PV → (PV → R) → R) (ret0 : (List PV) → R) (p63 : PV) (n68 : Int) (l69 : List PV) : R := loopR (f54_w4B k c54v1 c79 c79v1 c80 ret0 p63) k (n68, l69)
theorem f54_w4_eq (k : Nat) (c54v1 : PV → (List PV) → ((List PV) → R) → R) (c79 : (List Int) → PV → (List PV) → (Int → PV → (List PV) → R) → R) (c79v1 : (List Int) → (List PV) → (Int → PV → (List PV) → R) → R) (c80 : PV → (PV → R) → R) (retF : (List PV) → R) (p63 : PV) (n68 : Int) (l69 : List PV) : f54_w4A k c54v1 c79 c79v1 c80 retF p63 n68 l69 = f54_w4N k c54v1 c79 c79v1 c80 (fun y0 => retF y0) p63 n68 l69 :=
  Eq.mp (by kernel_rfl) (loop_sim (E := (f54_E k c54v1 c79 c79v1 c80)) (c := f54_cw4) (K := (kont (f54_E k c54v1 c79 c79v1 c80) f54_code [1, 1, 1, 1, 0, 1, 0] (endK (f54_E k c54v1 c79 c79v1 c80) Try.f54 [2000000, 2000001] f54_un retF))) (S := Int × (List PV)) (fun s => f54_hw4_0 p63 s.1 s.2) (f54_w4B k c54v1 c79 c79v1 c80 (fun y0 => retF y0) p63) (fun NX s => by
    exact Eq.mp (by kernel_rfl) (f54_w4b0_eq k c54v1 c79 c79v1 c80 retF NX p63 s.1 s.2)) k (n68, l69))

noncomputable def f54_cw7 : Code := subC f54_code [1, 1, 1, 1, 0, 1, 0, 0]
noncomputable def f54_hw7_0 (p117 : PV) (n122 : Int) (l123 : List PV) : St := ⟨[.ptr 2000000 [], .dead, .dead, .dead, .dead, .str [93], .dead, .dead, .dead, .dead, .dead, .dead, .dead, .dead, .dead, .dead, .dead, .dead, .dead, .dead, .dead, .dead, .dead, .dead, .dead, .dead, .dead, .dead, .dead, .dead, .dead, .dead, .dead, .dead, .dead, .dead, .dead, .dead, .dead, .dead, .dead, .dead, .dead, .dead, .dead, .dead, .dead, .dead, .dead, .val 37 p117, .int .i64 (List.length (PV.els p117) : Int), .int .i64 n122, .dead, .dead, .dead, .dead, .dead, .dead, .dead, .dead, .dead, .dead, .dead, .dead, .dead, .dead, .dead], [(2000000, .box 97 (.agg 97 [.ptr 2000000 [], .own 36 2000001])), (2000001, .row 5 l123)]⟩
noncomputable def f54_w7A (k : Nat) (c54v1 : PV → (List PV) → ((List PV) → R) → R) (c79 : (List Int) → PV → (List PV) → (Int → PV → (List PV) → R) → R) (c79v1 : (List Int) → (List PV) → (Int → PV → (List PV) → R) → R) (c80 : PV → (PV → R) → R) (retF : (List PV) → R) (p117 : PV) (n122 : Int) (l123 : List PV) : R := loopM (f54_E k c54v1 c79 c79v1 c80) f54_cw7 (kont (f54_E k c54v1 c79 c79v1 c80) f54_code [1, 1, 1, 1, 0, 1, 0] (endK (f54_E k c54v1 c79 c79v1 c80) Try.f54 [2000000, 2000001] f54_un retF)) k (f54_hw7_0 p117 n122 l123)
noncomputable def f54_w7b0 (c54v1 : PV → (List PV) → ((List PV) → R) → R) (c79 : (List Int) → PV → (List PV) → (Int → PV → (List PV) → R) → R) (c79v1 : (List Int) → (List PV) → (Int → PV → (List PV) → R) → R) (c80 : PV → (PV → R) → R) (ret0 : (List PV) → R) (next_w7_0 : Int → (List PV) → R) (p117 : PV) (n122 : Int) (l123 : List PV) : R :=
  bif (decide (n122 < (List.length (PV.els p117) : Int))) then
    bif (true && decide ((0 : Int) ≤ n122) && decide (n122 < (List.length (PV.els p117) : Int))) then
      bif (decide ((0 : Int) < n122)) then
        c79v1 [44] l123 fun n124 p125 l126 =>
        c54v1 (List.getD (PV.els p117) (n122).toNat PV.nil) l126 fun l127 =>
        next_w7_0 (IntKind.wrap .i64 (n122 + (1 : Int))) l127
      else c54v1 (List.getD (PV.els p117) (n122).toNat PV.nil) l123 fun l128 =>
      next_w7_0 (IntKind.wrap .i64 (n122 + (1 : Int))) l128
    else none
  else c79v1 [93] l123 fun n129 p130 l131 =>
  ret0 l131

theorem f54_w7b0_mem (k : Nat) (c54v1 : PV → (List PV) → ((List PV) → R) → R) (c79 : (List Int) → PV → (List PV) → (Int → PV → (List PV) → R) → R) (c79v1 : (List Int) → (List PV) → (Int → PV → (List PV) → R) → R) (c80 : PV → (PV → R) → R) (retF : (List PV) → R) (NX_w7 : St → R) (p117 : PV) (n122 : Int) (l123 : List PV) : exec (f54_E k c54v1 c79 c79v1 c80) f54_cw7 (purgeK (f54_E k c54v1 c79 c79v1 c80) f54_cw7 (loopK NX_w7 (kont (f54_E k c54v1 c79 c79v1 c80) f54_code [1, 1, 1, 1, 0, 1, 0] (endK (f54_E k c54v1 c79 c79v1 c80) Try.f54 [2000000, 2000001] f54_un retF)))) (f54_hw7_0 p117 n122 l123) = f54_w7b0 c54v1 c79 c79v1 c80 (fun y0 => retF y0) (fun n122 l123 => NX_w7 (f54_hw7_0 p117 n122 l123)) p117 n122 l123 := by kernel_rfl

noncomputable def f54_w7b0N (k : Nat) (c54v1 : PV → (List PV) → ((List PV) → R) → R) (c79 : (List Int) → PV → (List PV) → (Int → PV → (List PV) → R) → R) (c79v1 : (List Int) → (List PV) → (Int → PV → (List PV) → R) → R) (c80 : PV → (PV → R) → R) (ret0 : (List PV) → R) (next_w7_0 : Int → (List PV) → R) (p117 : PV) (n122 : Int) (l123 : List PV) : R :=
  f54_w7b0 c54v1 c79 c79v1 c80 ret0 next_w7_0 p117 n122 l123
theorem f54_w7b0_eq (k : Nat) (c54v1 : PV → (List PV) → ((List PV) → R) → R) (c79 : (List Int) → PV → (List PV) → (Int → PV → (List PV) → R) → R) (c79v1 : (List Int) → (List PV) → (Int → PV → (List PV) → R) → R) (c80 : PV → (PV → R) → R) (retF : (List PV) → R) (NX_w7 : St → R) (p117 : PV) (n122 : Int) (l123 : List PV) : exec (f54_E k c54v1 c79 c79v1 c80) f54_cw7 (purgeK (f54_E k c54v1 c79 c79v1 c80) f54_cw7 (loopK NX_w7 (kont (f54_E k c54v1 c79 c79v1 c80) f54_code [1, 1, 1, 1, 0, 1, 0] (endK (f54_E k c54v1 c79 c79v1 c80) Try.f54 [2000000, 2000001] f54_un retF)))) (f54_hw7_0 p117 n122 l123) = f54_w7b0N k c54v1 c79 c79v1 c80 (fun y0 => retF y0) (fun n122 l123 => NX_w7 (f54_hw7_0 p117 n122 l123)) p117 n122 l123 :=
  (f54_w7b0_mem k c54v1 c79 c79v1 c80 retF NX_w7 p117 n122 l123)

noncomputable def f54_w7B (k : Nat) (c54v1 : PV → (List PV) → ((List PV) → R) → R) (c79 : (List Int) → PV → (List PV) → (Int → PV → (List PV) → R) → R) (c79v1 : (List Int) → (List PV) → (Int → PV → (List PV) → R) → R) (c80 : PV → (PV → R) → R) (ret0 : (List PV) → R) (p117 : PV) (nx : Int × (List PV) → R) : Int × (List PV) → R := (fun s => f54_w7b0N k c54v1 c79 c79v1 c80 ret0 (fun n122 l123 => nx (n122, l123)) p117 s.1 s.2)
noncomputable def f54_w7N (k : Nat) (c54v1 : PV → (List PV) → ((List PV) → R) → R) (c79 : (List Int) → PV → (List PV) → (Int → PV → (List PV) → R) → R) (c79v1 : (List Int) → (List PV) → (Int → PV → (List PV) → R) → R) (c80 : PV → (PV → R) → R) (ret0 : (List PV) → R) (p117 : PV) (n122 : Int) (l123 : List PV) : R := loopR (f54_w7B k c54v1 c79 c79v1 c80 ret0 p117) k (n122, l123)
theorem f54_w7_eq (k : Nat) (c54v1 : PV → (List PV) → ((List PV) → R) → R) (c79 : (List Int) → PV → (List PV) → (Int → PV → (List PV) → R) → R) (c79v1 : (List Int) → (List PV) → (Int → PV → (List PV) → R) → R) (c80 : PV → (PV → R) → R) (retF : (List PV) → R) (p117 : PV) (n122 : Int) (l123 : List PV) : f54_w7A k c54v1 c79 c79v1 c80 retF p117 n122 l123 = f54_w7N k c54v1 c79 c79v1 c80 (fun y0 => retF y0) p117 n122 l123 :=
  Eq.mp (by kernel_rfl) (loop_sim (E := (f54_E k c54v1 c79 c79v1 c80)) (c := f54_cw7) (K := (kont (f54_E k c54v1 c79 c79v1 c80) f54_code [1, 1, 1, 1, 0, 1, 0] (endK (f54_E k c54v1 c79 c79v1 c80) Try.f54 [2000000, 2000001] f54_un retF))) (S := Int × (List PV)) (fun s => f54_hw7_0 p117 s.1 s.2) (f54_w7B k c54v1 c79 c79v1 c80 (fun y0 => retF y0) p117) (fun NX s => by
    exact Eq.mp (by kernel_rfl) (f54_w7b0_eq k c54v1 c79 c79v1 c80 retF NX p117 s.1 s.2)) k (n122, l123))

noncomputable def f54_cw8 : Code := subC f54_code [1, 1, 1, 1, 0, 1, 0, 0]
noncomputable def f54_hw8_0 (p135 : PV) (n140 : Int) (l141 : List PV) : St := ⟨[.ptr 2000000 [], .dead, .dead, .dead, .dead, .str [62], .dead, .dead, .dead, .dead, .dead, .dead, .dead, .dead, .dead, .dead, .dead, .dead, .dead, .dead, .dead, .dead, .dead, .dead, .dead, .dead, .dead, .dead, .dead, .dead, .dead, .dead, .dead, .dead, .dead, .dead, .dead, .dead, .dead, .dead, .dead, .dead, .dead, .dead, .dead, .dead, .dead, .dead, .dead, .val 37 p135, .int .i64 (List.length (PV.els p135) : Int), .int .i64 n140, .dead, .dead, .dead, .dead, .dead, .dead, .dead, .dead, .dead, .dead, .dead, .dead, .dead, .dead, .dead], [(2000000, .box 97 (.agg 97 [.ptr 2000000 [], .own 36 2000001])), (2000001, .row 5 l141)]⟩
noncomputable def f54_w8A (k : Nat) (c54v1 : PV → (List PV) → ((List PV) → R) → R) (c79 : (List Int) → PV → (List PV) → (Int → PV → (List PV) → R) → R) (c79v1 : (List Int) → (List PV) → (Int → PV → (List PV) → R) → R) (c80 : PV → (PV → R) → R) (retF : (List PV) → R) (p135 : PV) (n140 : Int) (l141 : List PV) : R := loopM (f54_E k c54v1 c79 c79v1 c80) f54_cw8 (kont (f54_E k c54v1 c79 c79v1 c80) f54_code [1, 1, 1, 1, 0, 1, 0] (endK (f54_E k c54v1 c79 c79v1 c80) Try.f54 [2000000, 2000001] f54_un retF)) k (f54_hw8_0 p135 n140 l141)
noncomputable def f54_w8b0 (c54v1 : PV → (List PV) → ((List PV) → R) → R) (c79 : (List Int) → PV → (List PV) → (Int → PV → (List PV) → R) → R) (c79v1 : (List Int) → (List PV) → (Int → PV → (List PV) → R) → R) (c80 : PV → (PV → R) → R) (ret0 : (List PV) → R) (next_w8_0 : Int → (List PV) → R) (p135 : PV) (n140 : Int) (l141 : List PV) : R :=
  bif (decide (n140 < (List.length (PV.els p135) : Int))) then
    bif (true && decide ((0 : Int) ≤ n140) && decide (n140 < (List.length (PV.els p135) : Int))) then
      bif (decide ((0 : Int) < n140)) then
        c79v1 [44] l141 fun n142 p143 l144 =>
        c54v1 (List.getD (PV.els p135) (n140).toNat PV.nil) l144 fun l145 =>
        next_w8_0 (IntKind.wrap .i64 (n140 + (1 : Int))) l145
      else c54v1 (List.getD (PV.els p135) (n140).toNat PV.nil) l141 fun l146 =>
      next_w8_0 (IntKind.wrap .i64 (n140 + (1 : Int))) l146
    else none
  else c79v1 [62] l141 fun n147 p148 l149 =>
  ret0 l149

theorem f54_w8b0_mem (k : Nat) (c54v1 : PV → (List PV) → ((List PV) → R) → R) (c79 : (List Int) → PV → (List PV) → (Int → PV → (List PV) → R) → R) (c79v1 : (List Int) → (List PV) → (Int → PV → (List PV) → R) → R) (c80 : PV → (PV → R) → R) (retF : (List PV) → R) (NX_w8 : St → R) (p135 : PV) (n140 : Int) (l141 : List PV) : exec (f54_E k c54v1 c79 c79v1 c80) f54_cw8 (purgeK (f54_E k c54v1 c79 c79v1 c80) f54_cw8 (loopK NX_w8 (kont (f54_E k c54v1 c79 c79v1 c80) f54_code [1, 1, 1, 1, 0, 1, 0] (endK (f54_E k c54v1 c79 c79v1 c80) Try.f54 [2000000, 2000001] f54_un retF)))) (f54_hw8_0 p135 n140 l141) = f54_w8b0 c54v1 c79 c79v1 c80 (fun y0 => retF y0) (fun n140 l141 => NX_w8 (f54_hw8_0 p135 n140 l141)) p135 n140 l141 := by kernel_rfl

noncomputable def f54_w8b0N (k : Nat) (c54v1 : PV → (List PV) → ((List PV) → R) → R) (c79 : (List Int) → PV → (List PV) → (Int → PV → (List PV) → R) → R) (c79v1 : (List Int) → (List PV) → (Int → PV → (List PV) → R) → R) (c80 : PV → (PV → R) → R) (ret0 : (List PV) → R) (next_w8_0 : Int → (List PV) → R) (p135 : PV) (n140 : Int) (l141 : List PV) : R :=
  f54_w8b0 c54v1 c79 c79v1 c80 ret0 next_w8_0 p135 n140 l141
theorem f54_w8b0_eq (k : Nat) (c54v1 : PV → (List PV) → ((List PV) → R) → R) (c79 : (List Int) → PV → (List PV) → (Int → PV → (List PV) → R) → R) (c79v1 : (List Int) → (List PV) → (Int → PV → (List PV) → R) → R) (c80 : PV → (PV → R) → R) (retF : (List PV) → R) (NX_w8 : St → R) (p135 : PV) (n140 : Int) (l141 : List PV) : exec (f54_E k c54v1 c79 c79v1 c80) f54_cw8 (purgeK (f54_E k c54v1 c79 c79v1 c80) f54_cw8 (loopK NX_w8 (kont (f54_E k c54v1 c79 c79v1 c80) f54_code [1, 1, 1, 1, 0, 1, 0] (endK (f54_E k c54v1 c79 c79v1 c80) Try.f54 [2000000, 2000001] f54_un retF)))) (f54_hw8_0 p135 n140 l141) = f54_w8b0N k c54v1 c79 c79v1 c80 (fun y0 => retF y0) (fun n140 l141 => NX_w8 (f54_hw8_0 p135 n140 l141)) p135 n140 l141 :=
  (f54_w8b0_mem k c54v1 c79 c79v1 c80 retF NX_w8 p135 n140 l141)

noncomputable def f54_w8B (k : Nat) (c54v1 : PV → (List PV) → ((List PV) → R) → R) (c79 : (List Int) → PV → (List PV) → (Int → PV → (List PV) → R) → R) (c79v1 : (List Int) → (List PV) → (Int → PV → (List PV) → R) → R) (c80 : PV → (PV → R) → R) (ret0 : (List PV) → R) (p135 : PV) (nx : Int × (List PV) → R) : Int × (List PV) → R := (fun s => f54_w8b0N k c54v1 c79 c79v1 c80 ret0 (fun n140 l141 => nx (n140, l141)) p135 s.1 s.2)
noncomputable def f54_w8N (k : Nat) (c54v1 : PV → (List PV) → ((List PV) → R) → R) (c79 : (List Int) → PV → (List PV) → (Int → PV → (List PV) → R) → R) (c79v1 : (List Int) → (List PV) → (Int → PV → (List PV) → R) → R) (c80 : PV → (PV → R) → R) (ret0 : (List PV) → R) (p135 : PV) (n140 : Int) (l141 : List PV) : R := loopR (f54_w8B k c54v1 c79 c79v1 c80 ret0 p135) k (n140, l141)
theorem f54_w8_eq (k : Nat) (c54v1 : PV → (List PV) → ((List PV) → R) → R) (c79 : (List Int) → PV → (List PV) → (Int → PV → (List PV) → R) → R) (c79v1 : (List Int) → (List PV) → (Int → PV → (List PV) → R) → R) (c80 : PV → (PV → R) → R) (retF : (List PV) → R) (p135 : PV) (n140 : Int) (l141 : List PV) : f54_w8A k c54v1 c79 c79v1 c80 retF p135 n140 l141 = f54_w8N k c54v1 c79 c79v1 c80 (fun y0 => retF y0) p135 n140 l141 :=
  Eq.mp (by kernel_rfl) (loop_sim (E := (f54_E k c54v1 c79 c79v1 c80)) (c := f54_cw8) (K := (kont (f54_E k c54v1 c79 c79v1 c80) f54_code [1, 1, 1, 1, 0, 1, 0] (endK (f54_E k c54v1 c79 c79v1 c80) Try.f54 [2000000, 2000001] f54_un retF))) (S := Int × (List PV)) (fun s => f54_hw8_0 p135 s.1 s.2) (f54_w8B k c54v1 c79 c79v1 c80 (fun y0 => retF y0) p135) (fun NX s => by
    exact Eq.mp (by kernel_rfl) (f54_w8b0_eq k c54v1 c79 c79v1 c80 retF NX p135 s.1 s.2)) k (n140, l141))

noncomputable def f54_e (c54v1 : PV → (List PV) → ((List PV) → R) → R) (c79 : (List Int) → PV → (List PV) → (Int → PV → (List PV) → R) → R) (c79v1 : (List Int) → (List PV) → (Int → PV → (List PV) → R) → R) (c80 : PV → (PV → R) → R) (ret0 : (List PV) → R) (w1 : PV → Int → (List PV) → R) (w3 : PV → Int → (List PV) → R) (w4 : PV → Int → (List PV) → R) (w7 : PV → Int → (List PV) → R) (w8 : PV → Int → (List PV) → R) (p1 : PV) (p2 : PV) (l3 : List PV) : R :=
  bif (decide ((PV.num (PV.fld p1 0)) = (1 : Int))) then
    c79 [69] p2 l3 fun n4 p5 l6 =>
    c80 p1 fun p7 =>
    w1 p7 0 l6
  else bif (decide ((PV.num (PV.fld p1 0)) = (2 : Int))) then
    bif (decide ((0 : Int) ≤ (Int.fdiv (PV.num (PV.fld p1 1)) (2 ^ (min ((4 : Int)).toNat 8)))) && decide ((Int.fdiv (PV.num (PV.fld p1 1)) (2 ^ (min ((4 : Int)).toNat 8))) ≤ (IntKind.wrap .u8 ((Int.fdiv (PV.num (PV.fld p1 1)) (2 ^ (min ((4 : Int)).toNat 8))) + (1 : Int)))) && decide ((IntKind.wrap .u8 ((Int.fdiv (PV.num (PV.fld p1 1)) (2 ^ (min ((4 : Int)).toNat 8))) + (1 : Int))) ≤ (List.length [48, 49, 50, 51, 52, 53, 54, 55, 56, 57, 97, 98, 99, 100, 101, 102] : Int))) then
      let s22 : List Int := (List.drop ((Int.fdiv (PV.num (PV.fld p1 1)) (2 ^ (min ((4 : Int)).toNat 8)))).toNat (List.take ((IntKind.wrap .u8 ((Int.fdiv (PV.num (PV.fld p1 1)) (2 ^ (min ((4 : Int)).toNat 8))) + (1 : Int)))).toNat [48, 49, 50, 51, 52, 53, 54, 55, 56, 57, 97, 98, 99, 100, 101, 102]))
      bif (decide ((0 : Int) ≤ (intBit .and .u8 (PV.num (PV.fld p1 1)) 15)) && decide ((intBit .and .u8 (PV.num (PV.fld p1 1)) 15) ≤ (IntKind.wrap .u8 ((intBit .and .u8 (PV.num (PV.fld p1 1)) 15) + (1 : Int)))) && decide ((IntKind.wrap .u8 ((intBit .and .u8 (PV.num (PV.fld p1 1)) 15) + (1 : Int))) ≤ (List.length [48, 49, 50, 51, 52, 53, 54, 55, 56, 57, 97, 98, 99, 100, 101, 102] : Int))) then
        let s23 : List Int := (List.drop ((intBit .and .u8 (PV.num (PV.fld p1 1)) 15)).toNat (List.take ((IntKind.wrap .u8 ((intBit .and .u8 (PV.num (PV.fld p1 1)) 15) + (1 : Int)))).toNat [48, 49, 50, 51, 52, 53, 54, 55, 56, 57, 97, 98, 99, 100, 101, 102]))
        bif (decide (List.length s22 + List.length s23 ≤ 4611686018427387904)) then
          c79 (s22 ++ s23) p2 l3 fun n24 p25 l26 =>
          c80 p1 fun p27 =>
          w1 p27 0 l26
        else none
      else none
    else none
  else bif (decide ((PV.num (PV.fld p1 0)) = (3 : Int))) then
    bif (decide ((List.length (PV.els (PV.fld p1 2)) : Int) < (2 : Int))) then
      c79 [40] p2 l3 fun n42 p43 l44 =>
      c80 p1 fun p45 =>
      w3 p45 0 l44
    else c79 [40] p2 l3 fun n60 p61 l62 =>
    c80 p1 fun p63 =>
    w4 p63 0 l62
  else bif (decide ((PV.num (PV.fld p1 0)) = (4 : Int))) then
    c79 [76] p2 l3 fun n78 p79 l80 =>
    c80 p1 fun p81 =>
    w1 p81 0 l80
  else bif (decide ((PV.num (PV.fld p1 0)) = (5 : Int))) then
    c79 [82] p2 l3 fun n96 p97 l98 =>
    c80 p1 fun p99 =>
    w1 p99 0 l98
  else bif (decide ((PV.num (PV.fld p1 0)) = (6 : Int))) then
    c79 [91] p2 l3 fun n114 p115 l116 =>
    c80 p1 fun p117 =>
    w7 p117 0 l116
  else bif (decide ((PV.num (PV.fld p1 0)) = (7 : Int))) then
    c79 [60] p2 l3 fun n132 p133 l134 =>
    c80 p1 fun p135 =>
    w8 p135 0 l134
  else c79 [63] p2 l3 fun n150 p151 l152 =>
  c80 p1 fun p153 =>
  w1 p153 0 l152

theorem f54_e_mem (k : Nat) (c54v1 : PV → (List PV) → ((List PV) → R) → R) (c79 : (List Int) → PV → (List PV) → (Int → PV → (List PV) → R) → R) (c79v1 : (List Int) → (List PV) → (Int → PV → (List PV) → R) → R) (c80 : PV → (PV → R) → R) (retF : (List PV) → R) (p1 : PV) (p2 : PV) (l3 : List PV) : exec (f54_E k c54v1 c79 c79v1 c80) f54_code (endK (f54_E k c54v1 c79 c79v1 c80) Try.f54 [2000000, 2000001] f54_un retF) ⟨[.ptr 2000000 [], .val 39 p1, .undef, .undef, .undef, .undef, .undef, .undef, .undef, .undef, .undef, .undef, .undef, .undef, .undef, .undef, .undef, .undef, .undef, .undef, .undef, .undef, .undef, .undef, .undef, .undef, .undef, .undef, .undef, .undef, .undef, .undef, .undef, .undef, .undef, .undef, .undef, .undef, .undef, .undef, .undef, .undef, .undef, .undef, .undef, .undef, .undef, .undef, .undef, .undef, .undef, .undef, .undef, .undef, .undef, .undef, .undef, .undef, .undef, .undef, .undef, .undef, .undef, .undef, .undef, .undef, .undef], [(2000000, .box 97 (.agg 97 [.val 95 p2, .own 36 2000001])), (2000001, .row 5 l3)]⟩ = f54_e c54v1 c79 c79v1 c80 (fun y0 => retF y0) (fun p7 n12 l13 => f54_w1A k c54v1 c79 c79v1 c80 retF p7 n12 l13) (fun p45 n50 l51 => f54_w3A k c54v1 c79 c79v1 c80 retF p45 n50 l51) (fun p63 n68 l69 => f54_w4A k c54v1 c79 c79v1 c80 retF p63 n68 l69) (fun p117 n122 l123 => f54_w7A k c54v1 c79 c79v1 c80 retF p117 n122 l123) (fun p135 n140 l141 => f54_w8A k c54v1 c79 c79v1 c80 retF p135 n140 l141) p1 p2 l3 := by kernel_rfl

noncomputable def f54_N (k : Nat) (c54v1 : PV → (List PV) → ((List PV) → R) → R) (c79 : (List Int) → PV → (List PV) → (Int → PV → (List PV) → R) → R) (c79v1 : (List Int) → (List PV) → (Int → PV → (List PV) → R) → R) (c80 : PV → (PV → R) → R) (ret0 : (List PV) → R) (p1 : PV) (p2 : PV) (l3 : List PV) : R :=
  f54_e c54v1 c79 c79v1 c80 ret0 (fun p7 n12 l13 => f54_w1N k c54v1 c79 c79v1 c80 ret0 p7 n12 l13) (fun p45 n50 l51 => f54_w3N k c54v1 c79 c79v1 c80 ret0 p45 n50 l51) (fun p63 n68 l69 => f54_w4N k c54v1 c79 c79v1 c80 ret0 p63 n68 l69) (fun p117 n122 l123 => f54_w7N k c54v1 c79 c79v1 c80 ret0 p117 n122 l123) (fun p135 n140 l141 => f54_w8N k c54v1 c79 c79v1 c80 ret0 p135 n140 l141) p1 p2 l3
theorem f54_eq (k : Nat) (c54v1 : PV → (List PV) → ((List PV) → R) → R) (c79 : (List Int) → PV → (List PV) → (Int → PV → (List PV) → R) → R) (c79v1 : (List Int) → (List PV) → (Int → PV → (List PV) → R) → R) (c80 : PV → (PV → R) → R) (retF : (List PV) → R) (p1 : PV) (p2 : PV) (l3 : List PV) : exec (f54_E k c54v1 c79 c79v1 c80) f54_code (endK (f54_E k c54v1 c79 c79v1 c80) Try.f54 [2000000, 2000001] f54_un retF) ⟨[.ptr 2000000 [], .val 39 p1, .undef, .undef, .undef, .undef, .undef, .undef, .undef, .undef, .undef, .undef, .undef, .undef, .undef, .undef, .undef, .undef, .undef, .undef, .undef, .undef, .undef, .undef, .undef, .undef, .undef, .undef, .undef, .undef, .undef, .undef, .undef, .undef, .undef, .undef, .undef, .undef, .undef, .undef, .undef, .undef, .undef, .undef, .undef, .undef, .undef, .undef, .undef, .undef, .undef, .undef, .undef, .undef, .undef, .undef, .undef, .undef, .undef, .undef, .undef, .undef, .undef, .undef, .undef, .undef, .undef], [(2000000, .box 97 (.agg 97 [.val 95 p2, .own 36 2000001])), (2000001, .row 5 l3)]⟩ = f54_N k c54v1 c79 c79v1 c80 (fun y0 => retF y0) p1 p2 l3 :=
  (f54_e_mem k c54v1 c79 c79v1 c80 retF p1 p2 l3).trans (by rw [show (fun p7 n12 l13 => f54_w1A k c54v1 c79 c79v1 c80 retF p7 n12 l13) = (fun p7 n12 l13 => f54_w1N k c54v1 c79 c79v1 c80 (fun y0 => retF y0) p7 n12 l13) from funext fun p7 => funext fun n12 => funext fun l13 => f54_w1_eq k c54v1 c79 c79v1 c80 retF p7 n12 l13, show (fun p45 n50 l51 => f54_w3A k c54v1 c79 c79v1 c80 retF p45 n50 l51) = (fun p45 n50 l51 => f54_w3N k c54v1 c79 c79v1 c80 (fun y0 => retF y0) p45 n50 l51) from funext fun p45 => funext fun n50 => funext fun l51 => f54_w3_eq k c54v1 c79 c79v1 c80 retF p45 n50 l51, show (fun p63 n68 l69 => f54_w4A k c54v1 c79 c79v1 c80 retF p63 n68 l69) = (fun p63 n68 l69 => f54_w4N k c54v1 c79 c79v1 c80 (fun y0 => retF y0) p63 n68 l69) from funext fun p63 => funext fun n68 => funext fun l69 => f54_w4_eq k c54v1 c79 c79v1 c80 retF p63 n68 l69, show (fun p117 n122 l123 => f54_w7A k c54v1 c79 c79v1 c80 retF p117 n122 l123) = (fun p117 n122 l123 => f54_w7N k c54v1 c79 c79v1 c80 (fun y0 => retF y0) p117 n122 l123) from funext fun p117 => funext fun n122 => funext fun l123 => f54_w7_eq k c54v1 c79 c79v1 c80 retF p117 n122 l123, show (fun p135 n140 l141 => f54_w8A k c54v1 c79 c79v1 c80 retF p135 n140 l141) = (fun p135 n140 l141 => f54_w8N k c54v1 c79 c79v1 c80 (fun y0 => retF y0) p135 n140 l141) from funext fun p135 => funext fun n140 => funext fun l141 => f54_w8_eq k c54v1 c79 c79v1 c80 retF p135 n140 l141]; rfl)

noncomputable def G54 : Nat → PV → PV → (List PV) → ((List PV) → R) → R
  | 0, _, _, _, _ => none
  | k + 1, p1, p2, l3, ret0 => f54_N k (G54v1 k) (G79 k) (G79v1 k) (G80 k) ret0 p1 p2 l3
theorem S54 : ∀ k, Snd Try.prog 54 f54_I f54_O (fun x ret => G54 k x.1 x.2.1 x.2.2 (fun y0 => ret y0))
  | 0 => snd_none
  | k + 1 => snd_step (E := f54_E k (G54v1 k) (G79 k) (G79v1 k) (G80 k)) rfl laidOut noNums (orc_ok (S54v1 k).o f54v1_D_ok (orc_ok (S79 k).o f79_D_ok (orc_ok (S79v1 k).o f79v1_D_ok (orc_ok (S80 k).o f80_D_ok orc0_ok)))) (f := 54) (fn := Try.f54) (code := f54_code) Try.func54 (by kernel_rfl) (drawsOk_of laidOut (orc_ok (S54v1 k).o f54v1_D_ok (orc_ok (S79 k).o f79_D_ok (orc_ok (S79v1 k).o f79v1_D_ok (orc_ok (S80 k).o f80_D_ok orc0_ok)))) mixed (by kernel_rfl)) f54_un f54_un_ok [2000000, 2000001] (fun _ => rfl)
      (fun x ret => f54_eq k (G54v1 k) (G79 k) (G79v1 k) (G80 k) ret x.1 x.2.1 x.2.2)

/- (*strings.Builder).String -/
noncomputable def f55_I : (List PV) → List SV × Obs := fun x => ([.ptr 2000000 []], [(2000000, .box 97 (.agg 97 [.ptr 2000000 [], .own 36 2000001])), (2000001, .row 5 x)])
noncomputable def f55_D : List SV → Obs → Option ((List PV))
  | [.ptr 2000000 []], [(2000000, .box 97 (.agg 97 [.ptr 2000000 [], .own 36 2000001])), (2000001, .row 5 l1)] => some l1
  | _, _ => none
theorem f55_D_ok (args : List SV) (B : Obs) (x : (List PV)) (h : f55_D args B = some x) : f55_I x = (args, B) := by
  unfold f55_D at h
  split at h
  · injection h with h; subst h; rfl
  · cases h
noncomputable def f55_O : (List Int) → Out := (fun y => ([.str y], [(2000000, .box 97 (.agg 97 [.ptr 2000000 [], .dead]))]))
noncomputable def f55_un : Out → Option ((List Int))
  | ([.str y0], [(2000000, .box 97 (.agg 97 [.ptr 2000000 [], .dead]))]) => some y0
  | _ => none
theorem f55_un_ok (o : Out) (y : (List Int)) (h : f55_un o = some y) : o = f55_O y := by
  unfold f55_un at h
  split at h
  · injection h with h; subst h; rfl
  · cases h

noncomputable def G55 : Nat → (List PV) → ((List Int) → R) → R
  | _, l, ret0 => ret0 (l.map PV.num)
theorem S55 : ∀ k, SndO Try.prog 55 f55_I f55_O (fun x ret => G55 k x (fun y0 => ret y0)) := fun k => Bld.strUsed

/- catchpole/value.Text -/
noncomputable def f20_I : PV → List SV × Obs := fun x => ([.val 39 x], [])
noncomputable def f20_D : List SV → Obs → Option (PV)
  | [.val 39 p1], [] => some p1
  | _, _ => none
theorem f20_D_ok (args : List SV) (B : Obs) (x : PV) (h : f20_D args B = some x) : f20_I x = (args, B) := by
  unfold f20_D at h
  split at h
  · injection h with h; subst h; rfl
  · cases h
noncomputable def f20_O : (List Int) → Out := (fun y => ([.str y], []))
noncomputable def f20_un : Out → Option ((List Int))
  | ([.str y0], []) => some y0
  | _ => none
theorem f20_un_ok (o : Out) (y : (List Int)) (h : f20_un o = some y) : o = f20_O y := by
  unfold f20_un at h
  split at h
  · injection h with h; subst h; rfl
  · cases h
noncomputable def f20_msk : Nat → Option (List Nat) := fun key =>  none
noncomputable def f20_C (c54 : PV → PV → (List PV) → ((List PV) → R) → R) (c55 : (List PV) → ((List Int) → R) → R) : Oracle := orc 54 f54_D f54_O (fun x ret => c54 x.1 x.2.1 x.2.2 (fun y0 => ret y0)) <| orc 55 f55_D f55_O (fun x ret => c55 x (fun y0 => ret y0)) <| orc0
noncomputable def f20_E (k : Nat) (c54 : PV → PV → (List PV) → ((List PV) → R) → R) (c55 : (List PV) → ((List Int) → R) → R) : Env := { P := Try.prog, nilOwn := fun d => false, fldOwn := fun d i => (d == 3 && i == 1), ownPar := ownPars, ownRet := false, hpD := fun d => false, hpF := hpFs, hpNew := false, mask := f20_msk, fuel := k, C := f20_C c54 c55 }
noncomputable def f20_code : Code := Try.f20.body.getD .skip
noncomputable def f20_e (c54 : PV → PV → (List PV) → ((List PV) → R) → R) (c55 : (List PV) → ((List Int) → R) → R) (ret0 : (List Int) → R) (p1 : PV) : R :=
  c54 p1 PV.nil [] fun l2 =>
  c55 l2 fun s3 =>
  ret0 s3

theorem f20_e_mem (k : Nat) (c54 : PV → PV → (List PV) → ((List PV) → R) → R) (c55 : (List PV) → ((List Int) → R) → R) (retF : (List Int) → R) (p1 : PV) : exec (f20_E k c54 c55) f20_code (endK (f20_E k c54 c55) Try.f20 [] f20_un retF) ⟨[.val 39 p1, .undef, .undef, .undef, .undef, .undef, .undef], []⟩ = f20_e c54 c55 (fun y0 => retF y0) p1 := by kernel_rfl

noncomputable def f20_N (k : Nat) (c54 : PV → PV → (List PV) → ((List PV) → R) → R) (c55 : (List PV) → ((List Int) → R) → R) (ret0 : (List Int) → R) (p1 : PV) : R :=
  f20_e c54 c55 ret0 p1
theorem f20_eq (k : Nat) (c54 : PV → PV → (List PV) → ((List PV) → R) → R) (c55 : (List PV) → ((List Int) → R) → R) (retF : (List Int) → R) (p1 : PV) : exec (f20_E k c54 c55) f20_code (endK (f20_E k c54 c55) Try.f20 [] f20_un retF) ⟨[.val 39 p1, .undef, .undef, .undef, .undef, .undef, .undef], []⟩ = f20_N k c54 c55 (fun y0 => retF y0) p1 :=
  (f20_e_mem k c54 c55 retF p1)

noncomputable def G20 : Nat → PV → ((List Int) → R) → R
  | 0, _, _ => none
  | k + 1, p1, ret0 => f20_N k (G54 k) (G55 k) ret0 p1
theorem S20 : ∀ k, Snd Try.prog 20 f20_I f20_O (fun x ret => G20 k x (fun y0 => ret y0))
  | 0 => snd_none
  | k + 1 => snd_step (E := f20_E k (G54 k) (G55 k)) rfl laidOut noNums (orc_ok (S54 k).o f54_D_ok (orc_ok (S55 k).o f55_D_ok orc0_ok)) (f := 20) (fn := Try.f20) (code := f20_code) Try.func20 (by kernel_rfl) (drawsOk_of laidOut (orc_ok (S54 k).o f54_D_ok (orc_ok (S55 k).o f55_D_ok orc0_ok)) mixed (by kernel_rfl)) f20_un f20_un_ok [] (fun _ => rfl)
      (fun x ret => f20_eq k (G54 k) (G55 k) ret x)

/- catchpole/catchpolelaw20.awake -/
noncomputable def f12_I : Unit → List SV × Obs := fun x => ([], [])
noncomputable def f12_D : List SV → Obs → Option (Unit)
  | [], [] => some ()
  | _, _ => none
theorem f12_D_ok (args : List SV) (B : Obs) (x : Unit) (h : f12_D args B = some x) : f12_I x = (args, B) := by
  unfold f12_D at h
  split at h
  · injection h with h; subst h; rfl
  · cases h
noncomputable def f12_O : Bool → Out := (fun y => ([.bool y], []))
noncomputable def f12_un : Out → Option (Bool)
  | ([.bool y0], []) => some y0
  | _ => none
theorem f12_un_ok (o : Out) (y : Bool) (h : f12_un o = some y) : o = f12_O y := by
  unfold f12_un at h
  split at h
  · injection h with h; subst h; rfl
  · cases h
noncomputable def f12_msk : Nat → Option (List Nat) := fun key =>  none
noncomputable def f12_C (c15 : PV → (PV → R) → R) (c16 : PV → (PV → R) → R) (c19 : PV → PV → (PV → Int → R) → R) (c20 : PV → ((List Int) → R) → R) : Oracle := orc 15 f15_D f15_O (fun x ret => c15 x (fun y0 => ret y0)) <| orc 16 f16_D f16_O (fun x ret => c16 x (fun y0 => ret y0)) <| orc 19 f19_D f19_O (fun x ret => c19 x.1 x.2 (fun y0 y1 => ret (y0, y1))) <| orc 20 f20_D f20_O (fun x ret => c20 x (fun y0 => ret y0)) <| orc0
noncomputable def f12_E (k : Nat) (c15 : PV → (PV → R) → R) (c16 : PV → (PV → R) → R) (c19 : PV → PV → (PV → Int → R) → R) (c20 : PV → ((List Int) → R) → R) : Env := { P := Try.prog, nilOwn := fun d => d == 7, fldOwn := fun d i => false, ownPar := ownPars, ownRet := false, hpD := fun d => false, hpF := hpFs, hpNew := false, mask := f12_msk, fuel := k, C := f12_C c15 c16 c19 c20 }
noncomputable def f12_code : Code := Try.f12.body.getD .skip
noncomputable def f12_e (c15 : PV → (PV → R) → R) (c16 : PV → (PV → R) → R) (c19 : PV → PV → (PV → Int → R) → R) (c20 : PV → ((List Int) → R) → R) (ret0 : Bool → R) : R :=
  c15 (PV.list [(PV.int 97)]) fun p1 =>
  c16 p1 fun p2 =>
  c19 p2 (PV.list [(PV.int 97), (PV.int 97)]) fun p3 n4 =>
  bif ((decide (n4 = (0 : Int))) == true) then
    c20 p3 fun s5 =>
    ret0 (decide ((s5 : List Int) = [91, 54, 49, 44, 54, 49, 93]))
  else ret0 false

theorem f12_e_mem (k : Nat) (c15 : PV → (PV → R) → R) (c16 : PV → (PV → R) → R) (c19 : PV → PV → (PV → Int → R) → R) (c20 : PV → ((List Int) → R) → R) (retF : Bool → R) : exec (f12_E k c15 c16 c19 c20) f12_code (endK (f12_E k c15 c16 c19 c20) Try.f12 [] f12_un retF) ⟨[.undef, .undef, .undef, .undef, .undef, .undef, .undef, .undef, .undef, .undef, .undef, .undef, .undef, .undef, .undef, .undef, .undef, .undef, .undef], []⟩ = f12_e c15 c16 c19 c20 (fun y0 => retF y0) := by kernel_rfl

noncomputable def f12_N (k : Nat) (c15 : PV → (PV → R) → R) (c16 : PV → (PV → R) → R) (c19 : PV → PV → (PV → Int → R) → R) (c20 : PV → ((List Int) → R) → R) (ret0 : Bool → R) : R :=
  f12_e c15 c16 c19 c20 ret0
theorem f12_eq (k : Nat) (c15 : PV → (PV → R) → R) (c16 : PV → (PV → R) → R) (c19 : PV → PV → (PV → Int → R) → R) (c20 : PV → ((List Int) → R) → R) (retF : Bool → R) : exec (f12_E k c15 c16 c19 c20) f12_code (endK (f12_E k c15 c16 c19 c20) Try.f12 [] f12_un retF) ⟨[.undef, .undef, .undef, .undef, .undef, .undef, .undef, .undef, .undef, .undef, .undef, .undef, .undef, .undef, .undef, .undef, .undef, .undef, .undef], []⟩ = f12_N k c15 c16 c19 c20 (fun y0 => retF y0) :=
  (f12_e_mem k c15 c16 c19 c20 retF)

noncomputable def G12 : Nat → (Bool → R) → R
  | 0, _ => none
  | k + 1, ret0 => f12_N k (G15 k) (G16 k) (G19 k) (G20 k) ret0 
theorem S12 : ∀ k, Snd Try.prog 12 f12_I f12_O (fun x ret => G12 k (fun y0 => ret y0))
  | 0 => snd_none
  | k + 1 => snd_step (E := f12_E k (G15 k) (G16 k) (G19 k) (G20 k)) rfl laidOut noNums (orc_ok (S15 k).o f15_D_ok (orc_ok (S16 k).o f16_D_ok (orc_ok (S19 k).o f19_D_ok (orc_ok (S20 k).o f20_D_ok orc0_ok)))) (f := 12) (fn := Try.f12) (code := f12_code) Try.func12 (by kernel_rfl) (drawsOk_of laidOut (orc_ok (S15 k).o f15_D_ok (orc_ok (S16 k).o f16_D_ok (orc_ok (S19 k).o f19_D_ok (orc_ok (S20 k).o f20_D_ok orc0_ok)))) mixed (by kernel_rfl)) f12_un f12_un_ok [] (fun _ => rfl)
      (fun x ret => f12_eq k (G15 k) (G16 k) (G19 k) (G20 k) ret)

/- catchpole/catchpolelaw20.seq -/
noncomputable def f13_I : PV × PV → List SV × Obs := fun x => ([.val 28 x.1, .val 28 x.2], [])
noncomputable def f13_D : List SV → Obs → Option (PV × PV)
  | [.val 28 p1, .val 28 p2], [] => some (p1, p2)
  | _, _ => none
theorem f13_D_ok (args : List SV) (B : Obs) (x : PV × PV) (h : f13_D args B = some x) : f13_I x = (args, B) := by
  unfold f13_D at h
  split at h
  · injection h with h; subst h; rfl
  · cases h
noncomputable def f13_O : PV → Out := (fun y => ([.val 28 y], []))
noncomputable def f13_un : Out → Option (PV)
  | ([.val 28 y0], []) => some y0
  | _ => none
theorem f13_un_ok (o : Out) (y : PV) (h : f13_un o = some y) : o = f13_O y := by
  unfold f13_un at h
  split at h
  · injection h with h; subst h; rfl
  · cases h
noncomputable def f13_msk : Nat → Option (List Nat) := fun key =>  none
noncomputable def f13_C : Oracle := orc0
noncomputable def f13_E (k : Nat) : Env := { P := Try.prog, nilOwn := fun d => false, fldOwn := fun d i => false, ownPar := ownPars, ownRet := false, hpD := fun d => false, hpF := hpFs, hpNew := false, mask := f13_msk, fuel := k, C := f13_C }
noncomputable def f13_code : Code := Try.f13.body.getD .skip
noncomputable def f13_e (ret0 : PV → R) (p1 : PV) (p2 : PV) : R :=
  ret0 (PV.agg [(PV.int 3), (PV.agg [(PV.int 0), (PV.int 0), (PV.int 0), (PV.int 0)]), (PV.int 0), (PV.list [p1, p2])])

theorem f13_e_mem (k : Nat) (retF : PV → R) (p1 : PV) (p2 : PV) : exec (f13_E k) f13_code (endK (f13_E k) Try.f13 [] f13_un retF) ⟨[.val 28 p1, .val 28 p2, .undef, .undef, .undef, .undef, .undef, .undef, .undef], []⟩ = f13_e (fun y0 => retF y0) p1 p2 := by kernel_rfl

noncomputable def f13_N (k : Nat) (ret0 : PV → R) (p1 : PV) (p2 : PV) : R :=
  f13_e ret0 p1 p2
theorem f13_eq (k : Nat) (retF : PV → R) (p1 : PV) (p2 : PV) : exec (f13_E k) f13_code (endK (f13_E k) Try.f13 [] f13_un retF) ⟨[.val 28 p1, .val 28 p2, .undef, .undef, .undef, .undef, .undef, .undef, .undef], []⟩ = f13_N k (fun y0 => retF y0) p1 p2 :=
  (f13_e_mem k retF p1 p2)

noncomputable def G13 : Nat → PV → PV → (PV → R) → R
  | 0, _, _, _ => none
  | k + 1, p1, p2, ret0 => f13_N k  ret0 p1 p2
theorem S13 : ∀ k, Snd Try.prog 13 f13_I f13_O (fun x ret => G13 k x.1 x.2 (fun y0 => ret y0))
  | 0 => snd_none
  | k + 1 => snd_step (E := f13_E k ) rfl laidOut noNums orc0_ok (f := 13) (fn := Try.f13) (code := f13_code) Try.func13 (by kernel_rfl) (drawsOk_of laidOut orc0_ok mixed (by kernel_rfl)) f13_un f13_un_ok [] (fun _ => rfl)
      (fun x ret => f13_eq k  ret x.1 x.2)

/- catchpole/catchpolelaw20.alt -/
noncomputable def f14_I : PV × PV → List SV × Obs := fun x => ([.val 28 x.1, .val 28 x.2], [])
noncomputable def f14_D : List SV → Obs → Option (PV × PV)
  | [.val 28 p1, .val 28 p2], [] => some (p1, p2)
  | _, _ => none
theorem f14_D_ok (args : List SV) (B : Obs) (x : PV × PV) (h : f14_D args B = some x) : f14_I x = (args, B) := by
  unfold f14_D at h
  split at h
  · injection h with h; subst h; rfl
  · cases h
noncomputable def f14_O : PV → Out := (fun y => ([.val 28 y], []))
noncomputable def f14_un : Out → Option (PV)
  | ([.val 28 y0], []) => some y0
  | _ => none
theorem f14_un_ok (o : Out) (y : PV) (h : f14_un o = some y) : o = f14_O y := by
  unfold f14_un at h
  split at h
  · injection h with h; subst h; rfl
  · cases h
noncomputable def f14_msk : Nat → Option (List Nat) := fun key =>  none
noncomputable def f14_C : Oracle := orc0
noncomputable def f14_E (k : Nat) : Env := { P := Try.prog, nilOwn := fun d => false, fldOwn := fun d i => false, ownPar := ownPars, ownRet := false, hpD := fun d => false, hpF := hpFs, hpNew := false, mask := f14_msk, fuel := k, C := f14_C }
noncomputable def f14_code : Code := Try.f14.body.getD .skip
noncomputable def f14_e (ret0 : PV → R) (p1 : PV) (p2 : PV) : R :=
  ret0 (PV.agg [(PV.int 4), (PV.agg [(PV.int 0), (PV.int 0), (PV.int 0), (PV.int 0)]), (PV.int 0), (PV.list [p1, p2])])

theorem f14_e_mem (k : Nat) (retF : PV → R) (p1 : PV) (p2 : PV) : exec (f14_E k) f14_code (endK (f14_E k) Try.f14 [] f14_un retF) ⟨[.val 28 p1, .val 28 p2, .undef, .undef, .undef, .undef, .undef, .undef, .undef], []⟩ = f14_e (fun y0 => retF y0) p1 p2 := by kernel_rfl

noncomputable def f14_N (k : Nat) (ret0 : PV → R) (p1 : PV) (p2 : PV) : R :=
  f14_e ret0 p1 p2
theorem f14_eq (k : Nat) (retF : PV → R) (p1 : PV) (p2 : PV) : exec (f14_E k) f14_code (endK (f14_E k) Try.f14 [] f14_un retF) ⟨[.val 28 p1, .val 28 p2, .undef, .undef, .undef, .undef, .undef, .undef, .undef], []⟩ = f14_N k (fun y0 => retF y0) p1 p2 :=
  (f14_e_mem k retF p1 p2)

noncomputable def G14 : Nat → PV → PV → (PV → R) → R
  | 0, _, _, _ => none
  | k + 1, p1, p2, ret0 => f14_N k  ret0 p1 p2
theorem S14 : ∀ k, Snd Try.prog 14 f14_I f14_O (fun x ret => G14 k x.1 x.2 (fun y0 => ret y0))
  | 0 => snd_none
  | k + 1 => snd_step (E := f14_E k ) rfl laidOut noNums orc0_ok (f := 14) (fn := Try.f14) (code := f14_code) Try.func14 (by kernel_rfl) (drawsOk_of laidOut orc0_ok mixed (by kernel_rfl)) f14_un f14_un_ok [] (fun _ => rfl)
      (fun x ret => f14_eq k  ret x.1 x.2)

/- (*catchpole/span.Spans).Says -/
noncomputable def f21_I : PV × PV × Int × Int × (List HE) → List SV × Obs := fun x => ([.hval 32 x.1, .val 42 x.2.1, .int .i64 x.2.2.1, .int .i64 x.2.2.2.1], [(1000000000000, .hp x.2.2.2.2)])
noncomputable def f21_D : List SV → Obs → Option (PV × PV × Int × Int × (List HE))
  | [.hval 32 p1, .val 42 p2, .int .i64 n3, .int .i64 n4], [(1000000000000, .hp h5)] => some (p1, p2, n3, n4, h5)
  | _, _ => none
theorem f21_D_ok (args : List SV) (B : Obs) (x : PV × PV × Int × Int × (List HE)) (h : f21_D args B = some x) : f21_I x = (args, B) := by
  unfold f21_D at h
  split at h
  · injection h with h; subst h; rfl
  · cases h
noncomputable def f21_O : Bool × (List HE) → Out := (fun y => ([.bool y.1], [(1000000000000, .hp y.2)]))
noncomputable def f21_un : Out → Option (Bool × (List HE))
  | ([.bool y0], [(1000000000000, .hp y1)]) => some (y0, y1)
  | _ => none
theorem f21_un_ok (o : Out) (y : Bool × (List HE)) (h : f21_un o = some y) : o = f21_O y := by
  unfold f21_un at h
  split at h
  · injection h with h; subst h; rfl
  · cases h
noncomputable def f21_msk : Nat → Option (List Nat) := fun key =>  none
noncomputable def f21_C (c51 : PV → PV → Int → Int → (List HE) → (Int → Bool → (List HE) → R) → R) (c52 : PV → Int → Int → Int → (List HE) → (Bool → (List HE) → R) → R) : Oracle := orc 51 f51_D f51_O (fun x ret => c51 x.1 x.2.1 x.2.2.1 x.2.2.2.1 x.2.2.2.2 (fun y0 y1 y2 => ret (y0, y1, y2))) <| orc 52 f52_D f52_O (fun x ret => c52 x.1 x.2.1 x.2.2.1 x.2.2.2.1 x.2.2.2.2 (fun y0 y1 => ret (y0, y1))) <| orc0
noncomputable def f21_E (k : Nat) (c51 : PV → PV → Int → Int → (List HE) → (Int → Bool → (List HE) → R) → R) (c52 : PV → Int → Int → Int → (List HE) → (Bool → (List HE) → R) → R) : Env := { P := Try.prog, nilOwn := fun d => false, fldOwn := fun d i => false, ownPar := ownPars, ownRet := false, hpD := fun d => false, hpF := hpFs, hpNew := false, mask := f21_msk, fuel := k, C := f21_C c51 c52 }
noncomputable def f21_code : Code := Try.f21.body.getD .skip
noncomputable def f21_e (c51 : PV → PV → Int → Int → (List HE) → (Int → Bool → (List HE) → R) → R) (c52 : PV → Int → Int → Int → (List HE) → (Bool → (List HE) → R) → R) (ret0 : Bool → (List HE) → R) (p1 : PV) (p2 : PV) (n3 : Int) (n4 : Int) (h5 : List HE) : R :=
  c51 p1 p2 n3 n4 h5 fun n6 b7 h8 =>
  bif (b7 == true) then
    bif (PV.isRp p1) then
      bif (true && true && (hokV h8 90 (PV.rI p1))) then
        c52 (PV.fld (hvarOf h8 (PV.rI p1)) 0) n6 n3 n4 h8 fun b9 h10 =>
        ret0 b9 h10
      else none
    else none
  else ret0 false h8

theorem f21_e_mem (k : Nat) (c51 : PV → PV → Int → Int → (List HE) → (Int → Bool → (List HE) → R) → R) (c52 : PV → Int → Int → Int → (List HE) → (Bool → (List HE) → R) → R) (retF : Bool × (List HE) → R) (p1 : PV) (p2 : PV) (n3 : Int) (n4 : Int) (h5 : List HE) : exec (f21_E k c51 c52) f21_code (endK (f21_E k c51 c52) Try.f21 [1000000000000] f21_un retF) ⟨[.hval 32 p1, .val 42 p2, .int .i64 n3, .int .i64 n4, .undef, .undef, .undef, .undef, .undef, .undef, .undef, .undef, .undef, .undef, .undef, .undef, .undef, .undef, .undef, .undef, .undef, .undef, .undef, .undef, .undef, .undef, .undef, .undef, .undef, .undef], [(1000000000000, .hp h5)]⟩ = f21_e c51 c52 (fun y0 y1 => retF (y0, y1)) p1 p2 n3 n4 h5 := by kernel_rfl

noncomputable def f21_N (k : Nat) (c51 : PV → PV → Int → Int → (List HE) → (Int → Bool → (List HE) → R) → R) (c52 : PV → Int → Int → Int → (List HE) → (Bool → (List HE) → R) → R) (ret0 : Bool → (List HE) → R) (p1 : PV) (p2 : PV) (n3 : Int) (n4 : Int) (h5 : List HE) : R :=
  f21_e c51 c52 ret0 p1 p2 n3 n4 h5
theorem f21_eq (k : Nat) (c51 : PV → PV → Int → Int → (List HE) → (Int → Bool → (List HE) → R) → R) (c52 : PV → Int → Int → Int → (List HE) → (Bool → (List HE) → R) → R) (retF : Bool × (List HE) → R) (p1 : PV) (p2 : PV) (n3 : Int) (n4 : Int) (h5 : List HE) : exec (f21_E k c51 c52) f21_code (endK (f21_E k c51 c52) Try.f21 [1000000000000] f21_un retF) ⟨[.hval 32 p1, .val 42 p2, .int .i64 n3, .int .i64 n4, .undef, .undef, .undef, .undef, .undef, .undef, .undef, .undef, .undef, .undef, .undef, .undef, .undef, .undef, .undef, .undef, .undef, .undef, .undef, .undef, .undef, .undef, .undef, .undef, .undef, .undef], [(1000000000000, .hp h5)]⟩ = f21_N k c51 c52 (fun y0 y1 => retF (y0, y1)) p1 p2 n3 n4 h5 :=
  (f21_e_mem k c51 c52 retF p1 p2 n3 n4 h5)

noncomputable def G21 : Nat → PV → PV → Int → Int → (List HE) → (Bool → (List HE) → R) → R
  | 0, _, _, _, _, _, _ => none
  | k + 1, p1, p2, n3, n4, h5, ret0 => f21_N k (G51 k) (G52 k) ret0 p1 p2 n3 n4 h5
theorem S21 : ∀ k, Snd Try.prog 21 f21_I f21_O (fun x ret => G21 k x.1 x.2.1 x.2.2.1 x.2.2.2.1 x.2.2.2.2 (fun y0 y1 => ret (y0, y1)))
  | 0 => snd_none
  | k + 1 => snd_step (E := f21_E k (G51 k) (G52 k)) rfl laidOut noNums (orc_ok (S51 k).o f51_D_ok (orc_ok (S52 k).o f52_D_ok orc0_ok)) (f := 21) (fn := Try.f21) (code := f21_code) Try.func21 (by kernel_rfl) (drawsOk_of laidOut (orc_ok (S51 k).o f51_D_ok (orc_ok (S52 k).o f52_D_ok orc0_ok)) mixed (by kernel_rfl)) f21_un f21_un_ok [1000000000000] (fun _ => rfl)
      (fun x ret => f21_eq k (G51 k) (G52 k) ret x.1 x.2.1 x.2.2.1 x.2.2.2.1 x.2.2.2.2)

/- catchpole/catchpolelaw20.SpanKnown -/
noncomputable def f3_I : Unit → List SV × Obs := fun x => ([], [])
noncomputable def f3_D : List SV → Obs → Option (Unit)
  | [], [] => some ()
  | _, _ => none
theorem f3_D_ok (args : List SV) (B : Obs) (x : Unit) (h : f3_D args B = some x) : f3_I x = (args, B) := by
  unfold f3_D at h
  split at h
  · injection h with h; subst h; rfl
  · cases h
noncomputable def f3_O : Bool → Out := (fun y => ([.bool y], []))
noncomputable def f3_un : Out → Option (Bool)
  | ([.bool y0], []) => some y0
  | _ => none
theorem f3_un_ok (o : Out) (y : Bool) (h : f3_un o = some y) : o = f3_O y := by
  unfold f3_un at h
  split at h
  · injection h with h; subst h; rfl
  · cases h
noncomputable def f3_msk : Nat → Option (List Nat) := fun key => bif key == 48 then some [1, 2, 4, 5, 6, 7, 9, 11, 13, 15, 17, 18, 19] else none
noncomputable def f3_C (c12 : (Bool → R) → R) (c13 : PV → PV → (PV → R) → R) (c14 : PV → PV → (PV → R) → R) (c15 : PV → (PV → R) → R) (c16 : PV → (PV → R) → R) (c17 : PV → PV → (List HE) → (PV → Int → (List HE) → R) → R) (c18 : PV → PV → Int → Int → (List HE) → (PV → Int → (List HE) → R) → R) (c19 : PV → PV → (PV → Int → R) → R) (c20 : PV → ((List Int) → R) → R) (c21 : PV → PV → Int → Int → (List HE) → (Bool → (List HE) → R) → R) : Oracle := orc 12 f12_D f12_O (fun x ret => c12 (fun y0 => ret y0)) <| orc 13 f13_D f13_O (fun x ret => c13 x.1 x.2 (fun y0 => ret y0)) <| orc 14 f14_D f14_O (fun x ret => c14 x.1 x.2 (fun y0 => ret y0)) <| orc 15 f15_D f15_O (fun x ret => c15 x (fun y0 => ret y0)) <| orc 16 f16_D f16_O (fun x ret => c16 x (fun y0 => ret y0)) <| orc 17 f17_D f17_O (fun x ret => c17 x.1 x.2.1 x.2.2 (fun y0 y1 y2 => ret (y0, y1, y2))) <| orc 18 f18_D f18_O (fun x ret => c18 x.1 x.2.1 x.2.2.1 x.2.2.2.1 x.2.2.2.2 (fun y0 y1 y2 => ret (y0, y1, y2))) <| orc 19 f19_D f19_O (fun x ret => c19 x.1 x.2 (fun y0 y1 => ret (y0, y1))) <| orc 20 f20_D f20_O (fun x ret => c20 x (fun y0 => ret y0)) <| orc 21 f21_D f21_O (fun x ret => c21 x.1 x.2.1 x.2.2.1 x.2.2.2.1 x.2.2.2.2 (fun y0 y1 => ret (y0, y1))) <| orc0
noncomputable def f3_E (k : Nat) (c12 : (Bool → R) → R) (c13 : PV → PV → (PV → R) → R) (c14 : PV → PV → (PV → R) → R) (c15 : PV → (PV → R) → R) (c16 : PV → (PV → R) → R) (c17 : PV → PV → (List HE) → (PV → Int → (List HE) → R) → R) (c18 : PV → PV → Int → Int → (List HE) → (PV → Int → (List HE) → R) → R) (c19 : PV → PV → (PV → Int → R) → R) (c20 : PV → ((List Int) → R) → R) (c21 : PV → PV → Int → Int → (List HE) → (Bool → (List HE) → R) → R) : Env := { P := Try.prog, nilOwn := fun d => d == 40 || d == 106, fldOwn := fun d i => false, ownPar := ownPars, ownRet := false, hpD := fun d => false, hpF := hpFs, hpNew := true, mask := f3_msk, fuel := k, C := f3_C c12 c13 c14 c15 c16 c17 c18 c19 c20 c21 }
noncomputable def f3_code : Code := Try.f3.body.getD .skip
noncomputable def G3 (k : Nat) (ret0 : Bool → R) : R := exec (f3_E k (G12 k) (G13 k) (G14 k) (G15 k) (G16 k) (G17 k) (G18 k) (G19 k) (G20 k) (G21 k)) f3_code (endK (f3_E k (G12 k) (G13 k) (G14 k) (G15 k) (G16 k) (G17 k) (G18 k) (G19 k) (G20 k) (G21 k)) Try.f3 [] f3_un ret0) { T := (f3_I ()).1 ++ List.replicate (Try.f3.ntmps - (f3_I ()).1.length) .undef, B := startH (f3_E k (G12 k) (G13 k) (G14 k) (G15 k) (G16 k) (G17 k) (G18 k) (G19 k) (G20 k) (G21 k)) (f3_I ()).2 }
theorem S3 : ∀ k, Snd Try.prog 3 f3_I f3_O (fun x ret => G3 k (fun y0 => ret y0)) := fun k =>
  snd_step (E := f3_E k (G12 k) (G13 k) (G14 k) (G15 k) (G16 k) (G17 k) (G18 k) (G19 k) (G20 k) (G21 k)) rfl laidOut noNums (orc_ok (S12 k).o f12_D_ok (orc_ok (S13 k).o f13_D_ok (orc_ok (S14 k).o f14_D_ok (orc_ok (S15 k).o f15_D_ok (orc_ok (S16 k).o f16_D_ok (orc_ok (S17 k).o f17_D_ok (orc_ok (S18 k).o f18_D_ok (orc_ok (S19 k).o f19_D_ok (orc_ok (S20 k).o f20_D_ok (orc_ok (S21 k).o f21_D_ok orc0_ok)))))))))) (f := 3) (fn := Try.f3) (code := f3_code) Try.func3 (by kernel_rfl) (drawsOk_of laidOut (orc_ok (S12 k).o f12_D_ok (orc_ok (S13 k).o f13_D_ok (orc_ok (S14 k).o f14_D_ok (orc_ok (S15 k).o f15_D_ok (orc_ok (S16 k).o f16_D_ok (orc_ok (S17 k).o f17_D_ok (orc_ok (S18 k).o f18_D_ok (orc_ok (S19 k).o f19_D_ok (orc_ok (S20 k).o f20_D_ok (orc_ok (S21 k).o f21_D_ok orc0_ok)))))))))) mixed (by kernel_rfl)) f3_un f3_un_ok [] (fun _ => rfl) (fun x ret => rfl)

end Go.Proofs.Ytmdlhnojpcnnbaa
