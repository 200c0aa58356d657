/- Functions of the program as Lean functions, each tied to the program by the kernel: catchpolelaw5.TreeKnown -/
import Derived.Test.YtifnlmfhbepjcaaXC
import Derived.Test.YtifnlmfhbepjcaaProg
import Derived.KernelRfl
set_option linter.unusedVariables false
set_option maxRecDepth 100000
namespace Go.Proofs.Ytifnlmfhbepjcaa
open Go Go.X
theorem laidOut : laidOutB Try.prog = true := by kernel_rfl
theorem noNums : noNum Try.prog = true := by kernel_rfl
theorem mixed : Try.prog.follows .mixedOrders = true := by kernel_rfl
noncomputable def ownPars : FuncId → Nat → Bool := fun f i => (f == 78 && i == 1)

/- catchpole/byteset.Of -/
noncomputable def f18_I : PV → List SV × Obs := fun x => ([.val 32 x], [])
noncomputable def f18_D : List SV → Obs → Option (PV)
  | [.val 32 p1], [] => some p1
  | _, _ => none
theorem f18_D_ok (args : List SV) (B : Obs) (x : PV) (h : f18_D args B = some x) : f18_I x = (args, B) := by
  unfold f18_D at h
  split at h
  · injection h with h; subst h; rfl
  · cases h
noncomputable def f18_O : PV → Out := (fun y => ([.val 24 y], []))
noncomputable def f18_un : Out → Option (PV)
  | ([.val 24 y0], []) => some y0
  | _ => none
theorem f18_un_ok (o : Out) (y : PV) (h : f18_un o = some y) : o = f18_O y := by
  unfold f18_un at h
  split at h
  · injection h with h; subst h; rfl
  · cases h
noncomputable def f18_msk : Nat → Option (List Nat) := fun key => bif key == 9 then some [2, 3, 6, 7, 8] else none
noncomputable def f18_C : Oracle := orc0
noncomputable def f18_E (k : Nat) : Env := { P := Try.prog, nilOwn := fun d => false, fldOwn := fun d i => false, ownPar := ownPars, ownRet := false, mask := f18_msk, fuel := k, C := f18_C }
noncomputable def f18_code : Code := Try.f18.body.getD .skip
noncomputable def f18_cw1 : Code := subC f18_code [1, 1, 0, 1, 0, 0]
noncomputable def f18_hw1_0 (p1 : PV) (n5 : Int) (p6 : PV) : St := ⟨[.dead, .dead, .ptr 2 [], .ptr 3 [], .dead, .dead, .val 32 p1, .int .i64 (List.length (PV.els p1) : Int), .int .i64 n5, .dead, .dead, .dead, .dead, .dead, .dead, .dead, .dead, .dead, .dead, .dead, .dead, .dead, .dead], [(2, .box 24 (.val 24 (PV.agg [(PV.int 0), (PV.int 0), (PV.int 0), (PV.int 0)]))), (3, .box 24 (.val 24 p6))]⟩
noncomputable def f18_w1A (k : Nat) (retF : PV → R) (p1 : PV) (n5 : Int) (p6 : PV) : R := loopM (f18_E k) f18_cw1 (kont (f18_E k) f18_code [1, 1, 0, 1, 0] (endK (f18_E k) Try.f18 [] f18_un retF)) k (f18_hw1_0 p1 n5 p6)
noncomputable def f18_w1b0 (ret0 : PV → R) (next_w1_0 : Int → PV → R) (p1 : PV) (n5 : Int) (p6 : PV) : R :=
  bif (decide (n5 < (List.length (PV.els p1) : Int))) then
    bif (true && decide ((0 : Int) ≤ n5) && decide (n5 < (List.length (PV.els p1) : Int))) then
      bif (true && decide ((0 : Int) ≤ (IntKind.wrap .u8 (Int.tdiv (PV.num (List.getD (PV.els p1) (n5).toNat PV.nil)) 64))) && decide ((IntKind.wrap .u8 (Int.tdiv (PV.num (List.getD (PV.els p1) (n5).toNat PV.nil)) 64)) < 4)) then
        let n7 : Int := (PV.num (PV.fld p6 ((IntKind.wrap .u8 (Int.tdiv (PV.num (List.getD (PV.els p1) (n5).toNat PV.nil)) 64))).toNat))
        bif (decide ((0 : Int) ≤ (Int.tmod (PV.num (List.getD (PV.els p1) (n5).toNat PV.nil)) 64))) then
          let n8 : Int := (IntKind.wrap .u64 ((1 : Int) * 2 ^ (min ((Int.tmod (PV.num (List.getD (PV.els p1) (n5).toNat PV.nil)) 64)).toNat 64)))
          bif (true && decide ((0 : Int) ≤ (IntKind.wrap .u8 (Int.tdiv (PV.num (List.getD (PV.els p1) (n5).toNat PV.nil)) 64))) && decide ((IntKind.wrap .u8 (Int.tdiv (PV.num (List.getD (PV.els p1) (n5).toNat PV.nil)) 64)) < 4)) then
            let p9 : PV := (PV.agg (List.set (PV.flds p6) ((IntKind.wrap .u8 (Int.tdiv (PV.num (List.getD (PV.els p1) (n5).toNat PV.nil)) 64))).toNat (PV.int (intBit .or .u64 n7 n8))))
            next_w1_0 (IntKind.wrap .i64 (n5 + (1 : Int))) p9
          else none
        else none
      else none
    else none
  else ret0 p6

theorem f18_w1b0_mem (k : Nat) (retF : PV → R) (NX_w1 : St → R) (p1 : PV) (n5 : Int) (p6 : PV) : exec (f18_E k) f18_cw1 (purgeK (f18_E k) f18_cw1 (loopK NX_w1 (kont (f18_E k) f18_code [1, 1, 0, 1, 0] (endK (f18_E k) Try.f18 [] f18_un retF)))) (f18_hw1_0 p1 n5 p6) = f18_w1b0 (fun y0 => retF y0) (fun n5 p6 => NX_w1 (f18_hw1_0 p1 n5 p6)) p1 n5 p6 := by kernel_rfl

noncomputable def f18_w1b0N (k : Nat) (ret0 : PV → R) (next_w1_0 : Int → PV → R) (p1 : PV) (n5 : Int) (p6 : PV) : R :=
  f18_w1b0 ret0 next_w1_0 p1 n5 p6
theorem f18_w1b0_eq (k : Nat) (retF : PV → R) (NX_w1 : St → R) (p1 : PV) (n5 : Int) (p6 : PV) : exec (f18_E k) f18_cw1 (purgeK (f18_E k) f18_cw1 (loopK NX_w1 (kont (f18_E k) f18_code [1, 1, 0, 1, 0] (endK (f18_E k) Try.f18 [] f18_un retF)))) (f18_hw1_0 p1 n5 p6) = f18_w1b0N k (fun y0 => retF y0) (fun n5 p6 => NX_w1 (f18_hw1_0 p1 n5 p6)) p1 n5 p6 :=
  (f18_w1b0_mem k retF NX_w1 p1 n5 p6)

noncomputable def f18_w1B (k : Nat) (ret0 : PV → R) (p1 : PV) (nx : Int × PV → R) : Int × PV → R := (fun s => f18_w1b0N k ret0 (fun n5 p6 => nx (n5, p6)) p1 s.1 s.2)
noncomputable def f18_w1N (k : Nat) (ret0 : PV → R) (p1 : PV) (n5 : Int) (p6 : PV) : R := loopR (f18_w1B k ret0 p1) k (n5, p6)
theorem f18_w1_eq (k : Nat) (retF : PV → R) (p1 : PV) (n5 : Int) (p6 : PV) : f18_w1A k retF p1 n5 p6 = f18_w1N k (fun y0 => retF y0) p1 n5 p6 :=
  Eq.mp (by kernel_rfl) (loop_sim (E := (f18_E k)) (c := f18_cw1) (K := (kont (f18_E k) f18_code [1, 1, 0, 1, 0] (endK (f18_E k) Try.f18 [] f18_un retF))) (S := Int × PV) (fun s => f18_hw1_0 p1 s.1 s.2) (f18_w1B k (fun y0 => retF y0) p1) (fun NX s => by
    exact Eq.mp (by kernel_rfl) (f18_w1b0_eq k retF NX p1 s.1 s.2)) k (n5, p6))

noncomputable def f18_e (ret0 : PV → R) (w1 : Int → PV → R) (p1 : PV) : R :=
  w1 0 (PV.agg [(PV.int 0), (PV.int 0), (PV.int 0), (PV.int 0)])

theorem f18_e_mem (k : Nat) (retF : PV → R) (p1 : PV) : exec (f18_E k) f18_code (endK (f18_E k) Try.f18 [] f18_un retF) ⟨[.val 32 p1, .undef, .undef, .undef, .undef, .undef, .undef, .undef, .undef, .undef, .undef, .undef, .undef, .undef, .undef, .undef, .undef, .undef, .undef, .undef, .undef, .undef, .undef], []⟩ = f18_e (fun y0 => retF y0) (fun n5 p6 => f18_w1A k retF p1 n5 p6) p1 := by kernel_rfl

noncomputable def f18_N (k : Nat) (ret0 : PV → R) (p1 : PV) : R :=
  f18_e ret0 (fun n5 p6 => f18_w1N k ret0 p1 n5 p6) p1
theorem f18_eq (k : Nat) (retF : PV → R) (p1 : PV) : exec (f18_E k) f18_code (endK (f18_E k) Try.f18 [] f18_un retF) ⟨[.val 32 p1, .undef, .undef, .undef, .undef, .undef, .undef, .undef, .undef, .undef, .undef, .undef, .undef, .undef, .undef, .undef, .undef, .undef, .undef, .undef, .undef, .undef, .undef], []⟩ = f18_N k (fun y0 => retF y0) p1 :=
  (f18_e_mem k retF p1).trans (by rw [show (fun n5 p6 => f18_w1A k retF p1 n5 p6) = (fun n5 p6 => f18_w1N k (fun y0 => retF y0) p1 n5 p6) from funext fun n5 => funext fun p6 => f18_w1_eq k retF p1 n5 p6]; rfl)

noncomputable def G18 : Nat → PV → (PV → R) → R
  | 0, _, _ => none
  | k + 1, p1, ret0 => f18_N k  ret0 p1
theorem S18 : ∀ k, Snd Try.prog 18 f18_I f18_O (fun x ret => G18 k x (fun y0 => ret y0))
  | 0 => snd_none
  | k + 1 => snd_step (E := f18_E k ) rfl laidOut noNums orc0_ok (f := 18) (fn := Try.f18) (code := f18_code) Try.func18 (by kernel_rfl) (drawsOk_of laidOut orc0_ok mixed (by kernel_rfl)) f18_un f18_un_ok [] (fun _ => rfl)
      (fun x ret => f18_eq k  ret x)

/- catchpole/catchpolelaw5.set -/
noncomputable def f47_I : Int → List SV × Obs := fun x => ([.int .u8 x], [])
noncomputable def f47_D : List SV → Obs → Option (Int)
  | [.int .u8 n1], [] => some n1
  | _, _ => none
theorem f47_D_ok (args : List SV) (B : Obs) (x : Int) (h : f47_D args B = some x) : f47_I x = (args, B) := by
  unfold f47_D at h
  split at h
  · injection h with h; subst h; rfl
  · cases h
noncomputable def f47_O : PV → Out := (fun y => ([.val 70 y], []))
noncomputable def f47_un : Out → Option (PV)
  | ([.val 70 y0], []) => some y0
  | _ => none
theorem f47_un_ok (o : Out) (y : PV) (h : f47_un o = some y) : o = f47_O y := by
  unfold f47_un at h
  split at h
  · injection h with h; subst h; rfl
  · cases h
noncomputable def f47_msk : Nat → Option (List Nat) := fun key =>  none
noncomputable def f47_C (c18 : PV → (PV → R) → R) : Oracle := orc 18 f18_D f18_O (fun x ret => c18 x (fun y0 => ret y0)) <| orc0
noncomputable def f47_E (k : Nat) (c18 : PV → (PV → R) → R) : Env := { P := Try.prog, nilOwn := fun d => false, fldOwn := fun d i => false, ownPar := ownPars, ownRet := false, mask := f47_msk, fuel := k, C := f47_C c18 }
noncomputable def f47_code : Code := Try.f47.body.getD .skip
noncomputable def f47_e (c18 : PV → (PV → R) → R) (ret0 : PV → R) (n1 : Int) : R :=
  c18 (PV.list [(PV.int n1)]) fun p2 =>
  ret0 (PV.agg [(PV.int 1), p2, (PV.int 0), (PV.int 0), (PV.int 0), (PV.list [])])

theorem f47_e_mem (k : Nat) (c18 : PV → (PV → R) → R) (retF : PV → R) (n1 : Int) : exec (f47_E k c18) f47_code (endK (f47_E k c18) Try.f47 [] f47_un retF) ⟨[.int .u8 n1, .undef, .undef, .undef, .undef, .undef, .undef], []⟩ = f47_e c18 (fun y0 => retF y0) n1 := by kernel_rfl

noncomputable def f47_N (k : Nat) (c18 : PV → (PV → R) → R) (ret0 : PV → R) (n1 : Int) : R :=
  f47_e c18 ret0 n1
theorem f47_eq (k : Nat) (c18 : PV → (PV → R) → R) (retF : PV → R) (n1 : Int) : exec (f47_E k c18) f47_code (endK (f47_E k c18) Try.f47 [] f47_un retF) ⟨[.int .u8 n1, .undef, .undef, .undef, .undef, .undef, .undef], []⟩ = f47_N k c18 (fun y0 => retF y0) n1 :=
  (f47_e_mem k c18 retF n1)

noncomputable def G47 : Nat → Int → (PV → R) → R
  | 0, _, _ => none
  | k + 1, n1, ret0 => f47_N k (G18 k) ret0 n1
theorem S47 : ∀ k, Snd Try.prog 47 f47_I f47_O (fun x ret => G47 k x (fun y0 => ret y0))
  | 0 => snd_none
  | k + 1 => snd_step (E := f47_E k (G18 k)) rfl laidOut noNums (orc_ok (S18 k).o f18_D_ok orc0_ok) (f := 47) (fn := Try.f47) (code := f47_code) Try.func47 (by kernel_rfl) (drawsOk_of laidOut (orc_ok (S18 k).o f18_D_ok orc0_ok) mixed (by kernel_rfl)) f47_un f47_un_ok [] (fun _ => rfl)
      (fun x ret => f47_eq k (G18 k) ret x)

/- catchpole/tree.Size -/
noncomputable def f51_I : PV → List SV × Obs := fun x => ([.val 70 x], [])
noncomputable def f51_D : List SV → Obs → Option (PV)
  | [.val 70 p1], [] => some p1
  | _, _ => none
theorem f51_D_ok (args : List SV) (B : Obs) (x : PV) (h : f51_D args B = some x) : f51_I x = (args, B) := by
  unfold f51_D at h
  split at h
  · injection h with h; subst h; rfl
  · cases h
noncomputable def f51_O : Int → Out := (fun y => ([.int .i64 y], []))
noncomputable def f51_un : Out → Option (Int)
  | ([.int .i64 y0], []) => some y0
  | _ => none
theorem f51_un_ok (o : Out) (y : Int) (h : f51_un o = some y) : o = f51_O y := by
  unfold f51_un at h
  split at h
  · injection h with h; subst h; rfl
  · cases h
noncomputable def f51_msk : Nat → Option (List Nat) := fun key => bif key == 9 then some [3, 7, 8, 9] else none
noncomputable def f51_C (c51 : PV → (Int → R) → R) : Oracle := orc 51 f51_D f51_O (fun x ret => c51 x (fun y0 => ret y0)) <| orc0
noncomputable def f51_E (k : Nat) (c51 : PV → (Int → R) → R) : Env := { P := Try.prog, nilOwn := fun d => false, fldOwn := fun d i => false, ownPar := ownPars, ownRet := false, mask := f51_msk, fuel := k, C := f51_C c51 }
noncomputable def f51_code : Code := Try.f51.body.getD .skip
noncomputable def f51_cw1 : Code := subC f51_code [1, 1, 0, 1, 0, 0]
noncomputable def f51_hw1_0 (p1 : PV) (n3 : Int) (n4 : Int) : St := ⟨[.dead, .dead, .dead, .int .i64 n3, .dead, .dead, .dead, .val 68 (PV.fld p1 5), .int .i64 (List.length (PV.els (PV.fld p1 5)) : Int), .int .i64 n4, .dead, .dead, .dead, .dead, .dead, .dead, .dead, .dead, .dead, .dead, .dead, .dead], []⟩
noncomputable def f51_w1A (k : Nat) (c51 : PV → (Int → R) → R) (retF : Int → R) (p1 : PV) (n3 : Int) (n4 : Int) : R := loopM (f51_E k c51) f51_cw1 (kont (f51_E k c51) f51_code [1, 1, 0, 1, 0] (endK (f51_E k c51) Try.f51 [] f51_un retF)) k (f51_hw1_0 p1 n3 n4)
noncomputable def f51_w1b0 (c51 : PV → (Int → R) → R) (ret0 : Int → R) (next_w1_0 : Int → Int → R) (p1 : PV) (n3 : Int) (n4 : Int) : R :=
  bif (decide (n4 < (List.length (PV.els (PV.fld p1 5)) : Int))) then
    bif (true && decide ((0 : Int) ≤ n4) && decide (n4 < (List.length (PV.els (PV.fld p1 5)) : Int))) then
      bif (decide ((100000 : Int) ≤ n3)) then
        ret0 (if (100000 : Int) < n3 then 100000 else n3)
      else c51 (List.getD (PV.els (PV.fld p1 5)) (n4).toNat PV.nil) fun n5 =>
      next_w1_0 (IntKind.wrap .i64 (n3 + n5)) (IntKind.wrap .i64 (n4 + (1 : Int)))
    else none
  else ret0 (if (100000 : Int) < n3 then 100000 else n3)

theorem f51_w1b0_mem (k : Nat) (c51 : PV → (Int → R) → R) (retF : Int → R) (NX_w1 : St → R) (p1 : PV) (n3 : Int) (n4 : Int) : exec (f51_E k c51) f51_cw1 (purgeK (f51_E k c51) f51_cw1 (loopK NX_w1 (kont (f51_E k c51) f51_code [1, 1, 0, 1, 0] (endK (f51_E k c51) Try.f51 [] f51_un retF)))) (f51_hw1_0 p1 n3 n4) = f51_w1b0 c51 (fun y0 => retF y0) (fun n3 n4 => NX_w1 (f51_hw1_0 p1 n3 n4)) p1 n3 n4 := by kernel_rfl

noncomputable def f51_w1b0N (k : Nat) (c51 : PV → (Int → R) → R) (ret0 : Int → R) (next_w1_0 : Int → Int → R) (p1 : PV) (n3 : Int) (n4 : Int) : R :=
  f51_w1b0 c51 ret0 next_w1_0 p1 n3 n4
theorem f51_w1b0_eq (k : Nat) (c51 : PV → (Int → R) → R) (retF : Int → R) (NX_w1 : St → R) (p1 : PV) (n3 : Int) (n4 : Int) : exec (f51_E k c51) f51_cw1 (purgeK (f51_E k c51) f51_cw1 (loopK NX_w1 (kont (f51_E k c51) f51_code [1, 1, 0, 1, 0] (endK (f51_E k c51) Try.f51 [] f51_un retF)))) (f51_hw1_0 p1 n3 n4) = f51_w1b0N k c51 (fun y0 => retF y0) (fun n3 n4 => NX_w1 (f51_hw1_0 p1 n3 n4)) p1 n3 n4 :=
  (f51_w1b0_mem k c51 retF NX_w1 p1 n3 n4)

noncomputable def f51_w1B (k : Nat) (c51 : PV → (Int → R) → R) (ret0 : Int → R) (p1 : PV) (nx : Int × Int → R) : Int × Int → R := (fun s => f51_w1b0N k c51 ret0 (fun n3 n4 => nx (n3, n4)) p1 s.1 s.2)
noncomputable def f51_w1N (k : Nat) (c51 : PV → (Int → R) → R) (ret0 : Int → R) (p1 : PV) (n3 : Int) (n4 : Int) : R := loopR (f51_w1B k c51 ret0 p1) k (n3, n4)
theorem f51_w1_eq (k : Nat) (c51 : PV → (Int → R) → R) (retF : Int → R) (p1 : PV) (n3 : Int) (n4 : Int) : f51_w1A k c51 retF p1 n3 n4 = f51_w1N k c51 (fun y0 => retF y0) p1 n3 n4 :=
  Eq.mp (by kernel_rfl) (loop_sim (E := (f51_E k c51)) (c := f51_cw1) (K := (kont (f51_E k c51) f51_code [1, 1, 0, 1, 0] (endK (f51_E k c51) Try.f51 [] f51_un retF))) (S := Int × Int) (fun s => f51_hw1_0 p1 s.1 s.2) (f51_w1B k c51 (fun y0 => retF y0) p1) (fun NX s => by
    exact Eq.mp (by kernel_rfl) (f51_w1b0_eq k c51 retF NX p1 s.1 s.2)) k (n3, n4))

noncomputable def f51_e (c51 : PV → (Int → R) → R) (ret0 : Int → R) (w1 : Int → Int → R) (p1 : PV) : R :=
  w1 1 0

theorem f51_e_mem (k : Nat) (c51 : PV → (Int → R) → R) (retF : Int → R) (p1 : PV) : exec (f51_E k c51) f51_code (endK (f51_E k c51) Try.f51 [] f51_un retF) ⟨[.val 70 p1, .undef, .undef, .undef, .undef, .undef, .undef, .undef, .undef, .undef, .undef, .undef, .undef, .undef, .undef, .undef, .undef, .undef, .undef, .undef, .undef, .undef], []⟩ = f51_e c51 (fun y0 => retF y0) (fun n3 n4 => f51_w1A k c51 retF p1 n3 n4) p1 := by kernel_rfl

noncomputable def f51_N (k : Nat) (c51 : PV → (Int → R) → R) (ret0 : Int → R) (p1 : PV) : R :=
  f51_e c51 ret0 (fun n3 n4 => f51_w1N k c51 ret0 p1 n3 n4) p1
theorem f51_eq (k : Nat) (c51 : PV → (Int → R) → R) (retF : Int → R) (p1 : PV) : exec (f51_E k c51) f51_code (endK (f51_E k c51) Try.f51 [] f51_un retF) ⟨[.val 70 p1, .undef, .undef, .undef, .undef, .undef, .undef, .undef, .undef, .undef, .undef, .undef, .undef, .undef, .undef, .undef, .undef, .undef, .undef, .undef, .undef, .undef], []⟩ = f51_N k c51 (fun y0 => retF y0) p1 :=
  (f51_e_mem k c51 retF p1).trans (by rw [show (fun n3 n4 => f51_w1A k c51 retF p1 n3 n4) = (fun n3 n4 => f51_w1N k c51 (fun y0 => retF y0) p1 n3 n4) from funext fun n3 => funext fun n4 => f51_w1_eq k c51 retF p1 n3 n4]; rfl)

noncomputable def G51 : Nat → PV → (Int → R) → R
  | 0, _, _ => none
  | k + 1, p1, ret0 => f51_N k (G51 k) ret0 p1
theorem S51 : ∀ k, Snd Try.prog 51 f51_I f51_O (fun x ret => G51 k x (fun y0 => ret y0))
  | 0 => snd_none
  | k + 1 => snd_step (E := f51_E k (G51 k)) rfl laidOut noNums (orc_ok (S51 k).o f51_D_ok orc0_ok) (f := 51) (fn := Try.f51) (code := f51_code) Try.func51 (by kernel_rfl) (drawsOk_of laidOut (orc_ok (S51 k).o f51_D_ok orc0_ok) mixed (by kernel_rfl)) f51_un f51_un_ok [] (fun _ => rfl)
      (fun x ret => f51_eq k (G51 k) ret x)

/- catchpole/tree.depth -/
noncomputable def f74_I : PV × Int → List SV × Obs := fun x => ([.val 70 x.1, .int .i64 x.2], [])
noncomputable def f74_D : List SV → Obs → Option (PV × Int)
  | [.val 70 p1, .int .i64 n2], [] => some (p1, n2)
  | _, _ => none
theorem f74_D_ok (args : List SV) (B : Obs) (x : PV × Int) (h : f74_D args B = some x) : f74_I x = (args, B) := by
  unfold f74_D at h
  split at h
  · injection h with h; subst h; rfl
  · cases h
noncomputable def f74_O : Int → Out := (fun y => ([.int .i64 y], []))
noncomputable def f74_un : Out → Option (Int)
  | ([.int .i64 y0], []) => some y0
  | _ => none
theorem f74_un_ok (o : Out) (y : Int) (h : f74_un o = some y) : o = f74_O y := by
  unfold f74_un at h
  split at h
  · injection h with h; subst h; rfl
  · cases h
noncomputable def f74_msk : Nat → Option (List Nat) := fun key => bif key == 9 then some [1, 5, 9, 10, 11] else none
noncomputable def f74_C (c74 : PV → Int → (Int → R) → R) : Oracle := orc 74 f74_D f74_O (fun x ret => c74 x.1 x.2 (fun y0 => ret y0)) <| orc0
noncomputable def f74_E (k : Nat) (c74 : PV → Int → (Int → R) → R) : Env := { P := Try.prog, nilOwn := fun d => false, fldOwn := fun d i => false, ownPar := ownPars, ownRet := false, mask := f74_msk, fuel := k, C := f74_C c74 }
noncomputable def f74_code : Code := Try.f74.body.getD .skip
noncomputable def f74_cw1 : Code := subC f74_code [1, 1, 0, 1, 0, 0]
noncomputable def f74_hw1_0 (p1 : PV) (n2 : Int) (n4 : Int) (n5 : Int) : St := ⟨[.dead, .int .i64 n2, .dead, .dead, .dead, .int .i64 n4, .dead, .dead, .dead, .val 68 (PV.fld p1 5), .int .i64 (List.length (PV.els (PV.fld p1 5)) : Int), .int .i64 n5, .dead, .dead, .dead, .dead, .dead, .dead, .dead, .dead, .dead, .dead, .dead, .dead, .dead, .dead, .dead, .dead], []⟩
noncomputable def f74_w1A (k : Nat) (c74 : PV → Int → (Int → R) → R) (retF : Int → R) (p1 : PV) (n2 : Int) (n4 : Int) (n5 : Int) : R := loopM (f74_E k c74) f74_cw1 (kont (f74_E k c74) f74_code [1, 1, 0, 1, 0] (endK (f74_E k c74) Try.f74 [] f74_un retF)) k (f74_hw1_0 p1 n2 n4 n5)
noncomputable def f74_w1b0 (c74 : PV → Int → (Int → R) → R) (ret0 : Int → R) (next_w1_0 : Int → Int → R) (p1 : PV) (n2 : Int) (n4 : Int) (n5 : Int) : R :=
  bif (decide (n5 < (List.length (PV.els (PV.fld p1 5)) : Int))) then
    bif (true && decide ((0 : Int) ≤ n5) && decide (n5 < (List.length (PV.els (PV.fld p1 5)) : Int))) then
      bif (decide ((IntKind.wrap .i64 (n2 - (1 : Int))) ≤ n4)) then
        ret0 (IntKind.wrap .i64 (n4 + (1 : Int)))
      else c74 (List.getD (PV.els (PV.fld p1 5)) (n5).toNat PV.nil) (IntKind.wrap .i64 (n2 - (1 : Int))) fun n6 =>
      next_w1_0 (if n4 < n6 then n6 else n4) (IntKind.wrap .i64 (n5 + (1 : Int)))
    else none
  else ret0 (IntKind.wrap .i64 (n4 + (1 : Int)))

theorem f74_w1b0_mem (k : Nat) (c74 : PV → Int → (Int → R) → R) (retF : Int → R) (NX_w1 : St → R) (p1 : PV) (n2 : Int) (n4 : Int) (n5 : Int) : exec (f74_E k c74) f74_cw1 (purgeK (f74_E k c74) f74_cw1 (loopK NX_w1 (kont (f74_E k c74) f74_code [1, 1, 0, 1, 0] (endK (f74_E k c74) Try.f74 [] f74_un retF)))) (f74_hw1_0 p1 n2 n4 n5) = f74_w1b0 c74 (fun y0 => retF y0) (fun n4 n5 => NX_w1 (f74_hw1_0 p1 n2 n4 n5)) p1 n2 n4 n5 := by kernel_rfl

noncomputable def f74_w1b0N (k : Nat) (c74 : PV → Int → (Int → R) → R) (ret0 : Int → R) (next_w1_0 : Int → Int → R) (p1 : PV) (n2 : Int) (n4 : Int) (n5 : Int) : R :=
  f74_w1b0 c74 ret0 next_w1_0 p1 n2 n4 n5
theorem f74_w1b0_eq (k : Nat) (c74 : PV → Int → (Int → R) → R) (retF : Int → R) (NX_w1 : St → R) (p1 : PV) (n2 : Int) (n4 : Int) (n5 : Int) : exec (f74_E k c74) f74_cw1 (purgeK (f74_E k c74) f74_cw1 (loopK NX_w1 (kont (f74_E k c74) f74_code [1, 1, 0, 1, 0] (endK (f74_E k c74) Try.f74 [] f74_un retF)))) (f74_hw1_0 p1 n2 n4 n5) = f74_w1b0N k c74 (fun y0 => retF y0) (fun n4 n5 => NX_w1 (f74_hw1_0 p1 n2 n4 n5)) p1 n2 n4 n5 :=
  (f74_w1b0_mem k c74 retF NX_w1 p1 n2 n4 n5)

noncomputable def f74_w1B (k : Nat) (c74 : PV → Int → (Int → R) → R) (ret0 : Int → R) (p1 : PV) (n2 : Int) (nx : Int × Int → R) : Int × Int → R := (fun s => f74_w1b0N k c74 ret0 (fun n4 n5 => nx (n4, n5)) p1 n2 s.1 s.2)
noncomputable def f74_w1N (k : Nat) (c74 : PV → Int → (Int → R) → R) (ret0 : Int → R) (p1 : PV) (n2 : Int) (n4 : Int) (n5 : Int) : R := loopR (f74_w1B k c74 ret0 p1 n2) k (n4, n5)
theorem f74_w1_eq (k : Nat) (c74 : PV → Int → (Int → R) → R) (retF : Int → R) (p1 : PV) (n2 : Int) (n4 : Int) (n5 : Int) : f74_w1A k c74 retF p1 n2 n4 n5 = f74_w1N k c74 (fun y0 => retF y0) p1 n2 n4 n5 :=
  Eq.mp (by kernel_rfl) (loop_sim (E := (f74_E k c74)) (c := f74_cw1) (K := (kont (f74_E k c74) f74_code [1, 1, 0, 1, 0] (endK (f74_E k c74) Try.f74 [] f74_un retF))) (S := Int × Int) (fun s => f74_hw1_0 p1 n2 s.1 s.2) (f74_w1B k c74 (fun y0 => retF y0) p1 n2) (fun NX s => by
    exact Eq.mp (by kernel_rfl) (f74_w1b0_eq k c74 retF NX p1 n2 s.1 s.2)) k (n4, n5))

noncomputable def f74_e (c74 : PV → Int → (Int → R) → R) (ret0 : Int → R) (w1 : Int → Int → R) (p1 : PV) (n2 : Int) : R :=
  w1 0 0

theorem f74_e_mem (k : Nat) (c74 : PV → Int → (Int → R) → R) (retF : Int → R) (p1 : PV) (n2 : Int) : exec (f74_E k c74) f74_code (endK (f74_E k c74) Try.f74 [] f74_un retF) ⟨[.val 70 p1, .int .i64 n2, .undef, .undef, .undef, .undef, .undef, .undef, .undef, .undef, .undef, .undef, .undef, .undef, .undef, .undef, .undef, .undef, .undef, .undef, .undef, .undef, .undef, .undef, .undef, .undef, .undef, .undef], []⟩ = f74_e c74 (fun y0 => retF y0) (fun n4 n5 => f74_w1A k c74 retF p1 n2 n4 n5) p1 n2 := by kernel_rfl

noncomputable def f74_N (k : Nat) (c74 : PV → Int → (Int → R) → R) (ret0 : Int → R) (p1 : PV) (n2 : Int) : R :=
  f74_e c74 ret0 (fun n4 n5 => f74_w1N k c74 ret0 p1 n2 n4 n5) p1 n2
theorem f74_eq (k : Nat) (c74 : PV → Int → (Int → R) → R) (retF : Int → R) (p1 : PV) (n2 : Int) : exec (f74_E k c74) f74_code (endK (f74_E k c74) Try.f74 [] f74_un retF) ⟨[.val 70 p1, .int .i64 n2, .undef, .undef, .undef, .undef, .undef, .undef, .undef, .undef, .undef, .undef, .undef, .undef, .undef, .undef, .undef, .undef, .undef, .undef, .undef, .undef, .undef, .undef, .undef, .undef, .undef, .undef], []⟩ = f74_N k c74 (fun y0 => retF y0) p1 n2 :=
  (f74_e_mem k c74 retF p1 n2).trans (by rw [show (fun n4 n5 => f74_w1A k c74 retF p1 n2 n4 n5) = (fun n4 n5 => f74_w1N k c74 (fun y0 => retF y0) p1 n2 n4 n5) from funext fun n4 => funext fun n5 => f74_w1_eq k c74 retF p1 n2 n4 n5]; rfl)

noncomputable def G74 : Nat → PV → Int → (Int → R) → R
  | 0, _, _, _ => none
  | k + 1, p1, n2, ret0 => f74_N k (G74 k) ret0 p1 n2
theorem S74 : ∀ k, Snd Try.prog 74 f74_I f74_O (fun x ret => G74 k x.1 x.2 (fun y0 => ret y0))
  | 0 => snd_none
  | k + 1 => snd_step (E := f74_E k (G74 k)) rfl laidOut noNums (orc_ok (S74 k).o f74_D_ok orc0_ok) (f := 74) (fn := Try.f74) (code := f74_code) Try.func74 (by kernel_rfl) (drawsOk_of laidOut (orc_ok (S74 k).o f74_D_ok orc0_ok) mixed (by kernel_rfl)) f74_un f74_un_ok [] (fun _ => rfl)
      (fun x ret => f74_eq k (G74 k) ret x.1 x.2)

/- catchpole/tree.Depth -/
noncomputable def f50_I : PV → List SV × Obs := fun x => ([.val 70 x], [])
noncomputable def f50_D : List SV → Obs → Option (PV)
  | [.val 70 p1], [] => some p1
  | _, _ => none
theorem f50_D_ok (args : List SV) (B : Obs) (x : PV) (h : f50_D args B = some x) : f50_I x = (args, B) := by
  unfold f50_D at h
  split at h
  · injection h with h; subst h; rfl
  · cases h
noncomputable def f50_O : Int → Out := (fun y => ([.int .i64 y], []))
noncomputable def f50_un : Out → Option (Int)
  | ([.int .i64 y0], []) => some y0
  | _ => none
theorem f50_un_ok (o : Out) (y : Int) (h : f50_un o = some y) : o = f50_O y := by
  unfold f50_un at h
  split at h
  · injection h with h; subst h; rfl
  · cases h
noncomputable def f50_msk : Nat → Option (List Nat) := fun key =>  none
noncomputable def f50_C (c74 : PV → Int → (Int → R) → R) : Oracle := orc 74 f74_D f74_O (fun x ret => c74 x.1 x.2 (fun y0 => ret y0)) <| orc0
noncomputable def f50_E (k : Nat) (c74 : PV → Int → (Int → R) → R) : Env := { P := Try.prog, nilOwn := fun d => false, fldOwn := fun d i => false, ownPar := ownPars, ownRet := false, mask := f50_msk, fuel := k, C := f50_C c74 }
noncomputable def f50_code : Code := Try.f50.body.getD .skip
noncomputable def f50_e (c74 : PV → Int → (Int → R) → R) (ret0 : Int → R) (p1 : PV) : R :=
  c74 p1 65 fun n2 =>
  ret0 n2

theorem f50_e_mem (k : Nat) (c74 : PV → Int → (Int → R) → R) (retF : Int → R) (p1 : PV) : exec (f50_E k c74) f50_code (endK (f50_E k c74) Try.f50 [] f50_un retF) ⟨[.val 70 p1, .undef, .undef, .undef, .undef], []⟩ = f50_e c74 (fun y0 => retF y0) p1 := by kernel_rfl

noncomputable def f50_N (k : Nat) (c74 : PV → Int → (Int → R) → R) (ret0 : Int → R) (p1 : PV) : R :=
  f50_e c74 ret0 p1
theorem f50_eq (k : Nat) (c74 : PV → Int → (Int → R) → R) (retF : Int → R) (p1 : PV) : exec (f50_E k c74) f50_code (endK (f50_E k c74) Try.f50 [] f50_un retF) ⟨[.val 70 p1, .undef, .undef, .undef, .undef], []⟩ = f50_N k c74 (fun y0 => retF y0) p1 :=
  (f50_e_mem k c74 retF p1)

noncomputable def G50 : Nat → PV → (Int → R) → R
  | 0, _, _ => none
  | k + 1, p1, ret0 => f50_N k (G74 k) ret0 p1
theorem S50 : ∀ k, Snd Try.prog 50 f50_I f50_O (fun x ret => G50 k x (fun y0 => ret y0))
  | 0 => snd_none
  | k + 1 => snd_step (E := f50_E k (G74 k)) rfl laidOut noNums (orc_ok (S74 k).o f74_D_ok orc0_ok) (f := 50) (fn := Try.f50) (code := f50_code) Try.func50 (by kernel_rfl) (drawsOk_of laidOut (orc_ok (S74 k).o f74_D_ok orc0_ok) mixed (by kernel_rfl)) f50_un f50_un_ok [] (fun _ => rfl)
      (fun x ret => f50_eq k (G74 k) ret x)

/- catchpole/tree.clean -/
noncomputable def f80_I : PV → List SV × Obs := fun x => ([.val 70 x], [])
noncomputable def f80_D : List SV → Obs → Option (PV)
  | [.val 70 p1], [] => some p1
  | _, _ => none
theorem f80_D_ok (args : List SV) (B : Obs) (x : PV) (h : f80_D args B = some x) : f80_I x = (args, B) := by
  unfold f80_D at h
  split at h
  · injection h with h; subst h; rfl
  · cases h
noncomputable def f80_O : Bool → Out := (fun y => ([.bool y], []))
noncomputable def f80_un : Out → Option (Bool)
  | ([.bool y0], []) => some y0
  | _ => none
theorem f80_un_ok (o : Out) (y : Bool) (h : f80_un o = some y) : o = f80_O y := by
  unfold f80_un at h
  split at h
  · injection h with h; subst h; rfl
  · cases h
noncomputable def f80_msk : Nat → Option (List Nat) := fun key =>  none
noncomputable def f80_C : Oracle := orc0
noncomputable def f80_E (k : Nat) : Env := { P := Try.prog, nilOwn := fun d => false, fldOwn := fun d i => false, ownPar := ownPars, ownRet := false, mask := f80_msk, fuel := k, C := f80_C }
noncomputable def f80_code : Code := Try.f80.body.getD .skip
noncomputable def f80_e (ret0 : Bool → R) (p1 : PV) : R :=
  bif (decide ((PV.num (PV.fld p1 0)) = (1 : Int))) then
    bif ((PV.beq (PV.fld p1 1) (PV.fld p1 1)) == true) then
      bif ((decide ((PV.num (PV.fld p1 2)) = (0 : Int))) == true) then
        bif ((decide ((PV.num (PV.fld p1 3)) = (0 : Int))) == true) then
          ret0 (decide ((PV.num (PV.fld p1 4)) = (0 : Int)))
        else ret0 false
      else ret0 false
    else ret0 false
  else bif (decide ((PV.num (PV.fld p1 0)) = (4 : Int))) then
    bif ((PV.beq (PV.fld p1 1) (PV.agg [(PV.int 0), (PV.int 0), (PV.int 0), (PV.int 0)])) == true) then
      bif ((decide ((PV.num (PV.fld p1 2)) = (PV.num (PV.fld p1 2)))) == true) then
        bif ((decide ((PV.num (PV.fld p1 3)) = (PV.num (PV.fld p1 3)))) == true) then
          ret0 (decide ((PV.num (PV.fld p1 4)) = (0 : Int)))
        else ret0 false
      else ret0 false
    else ret0 false
  else bif (decide ((PV.num (PV.fld p1 0)) = (5 : Int))) then
    bif ((PV.beq (PV.fld p1 1) (PV.agg [(PV.int 0), (PV.int 0), (PV.int 0), (PV.int 0)])) == true) then
      bif ((decide ((PV.num (PV.fld p1 2)) = (0 : Int))) == true) then
        bif ((decide ((PV.num (PV.fld p1 3)) = (0 : Int))) == true) then
          ret0 (decide ((PV.num (PV.fld p1 4)) = (PV.num (PV.fld p1 4))))
        else ret0 false
      else ret0 false
    else ret0 false
  else bif ((PV.beq (PV.fld p1 1) (PV.agg [(PV.int 0), (PV.int 0), (PV.int 0), (PV.int 0)])) == true) then
    bif ((decide ((PV.num (PV.fld p1 2)) = (0 : Int))) == true) then
      bif ((decide ((PV.num (PV.fld p1 3)) = (0 : Int))) == true) then
        ret0 (decide ((PV.num (PV.fld p1 4)) = (0 : Int)))
      else ret0 false
    else ret0 false
  else ret0 false

theorem f80_e_mem (k : Nat) (retF : Bool → R) (p1 : PV) : exec (f80_E k) f80_code (endK (f80_E k) Try.f80 [] f80_un retF) ⟨[.val 70 p1, .undef, .undef, .undef, .undef, .undef, .undef, .undef, .undef, .undef, .undef, .undef, .undef, .undef, .undef, .undef, .undef, .undef, .undef, .undef, .undef, .undef, .undef, .undef, .undef, .undef, .undef, .undef, .undef, .undef, .undef, .undef, .undef, .undef, .undef, .undef, .undef, .undef, .undef, .undef, .undef, .undef, .undef, .undef, .undef, .undef, .undef, .undef, .undef, .undef, .undef, .undef, .undef], []⟩ = f80_e (fun y0 => retF y0) p1 := by kernel_rfl

noncomputable def f80_N (k : Nat) (ret0 : Bool → R) (p1 : PV) : R :=
  f80_e ret0 p1
theorem f80_eq (k : Nat) (retF : Bool → R) (p1 : PV) : exec (f80_E k) f80_code (endK (f80_E k) Try.f80 [] f80_un retF) ⟨[.val 70 p1, .undef, .undef, .undef, .undef, .undef, .undef, .undef, .undef, .undef, .undef, .undef, .undef, .undef, .undef, .undef, .undef, .undef, .undef, .undef, .undef, .undef, .undef, .undef, .undef, .undef, .undef, .undef, .undef, .undef, .undef, .undef, .undef, .undef, .undef, .undef, .undef, .undef, .undef, .undef, .undef, .undef, .undef, .undef, .undef, .undef, .undef, .undef, .undef, .undef, .undef, .undef, .undef], []⟩ = f80_N k (fun y0 => retF y0) p1 :=
  (f80_e_mem k retF p1)

noncomputable def G80 : Nat → PV → (Bool → R) → R
  | 0, _, _ => none
  | k + 1, p1, ret0 => f80_N k  ret0 p1
theorem S80 : ∀ k, Snd Try.prog 80 f80_I f80_O (fun x ret => G80 k x (fun y0 => ret y0))
  | 0 => snd_none
  | k + 1 => snd_step (E := f80_E k ) rfl laidOut noNums orc0_ok (f := 80) (fn := Try.f80) (code := f80_code) Try.func80 (by kernel_rfl) (drawsOk_of laidOut orc0_ok mixed (by kernel_rfl)) f80_un f80_un_ok [] (fun _ => rfl)
      (fun x ret => f80_eq k  ret x)

/- math/bits.OnesCount64 -/
noncomputable def f63_I : Int → List SV × Obs := fun x => ([.int .u64 x], [])
noncomputable def f63_D : List SV → Obs → Option (Int)
  | [.int .u64 n1], [] => some n1
  | _, _ => none
theorem f63_D_ok (args : List SV) (B : Obs) (x : Int) (h : f63_D args B = some x) : f63_I x = (args, B) := by
  unfold f63_D at h
  split at h
  · injection h with h; subst h; rfl
  · cases h
noncomputable def f63_O : Int → Out := (fun y => ([.int .i64 y], []))
noncomputable def f63_un : Out → Option (Int)
  | ([.int .i64 y0], []) => some y0
  | _ => none
theorem f63_un_ok (o : Out) (y : Int) (h : f63_un o = some y) : o = f63_O y := by
  unfold f63_un at h
  split at h
  · injection h with h; subst h; rfl
  · cases h
noncomputable def f63_msk : Nat → Option (List Nat) := fun key =>  none
noncomputable def f63_C : Oracle := orc0
noncomputable def f63_E (k : Nat) : Env := { P := Try.prog, nilOwn := fun d => false, fldOwn := fun d i => false, ownPar := ownPars, ownRet := false, mask := f63_msk, fuel := k, C := f63_C }
noncomputable def f63_code : Code := Try.f63.body.getD .skip
noncomputable def f63_e (ret0 : Int → R) (n1 : Int) : R :=
  let n2 : Int := (IntKind.wrap .u64 ((intBit .and .u64 (Int.fdiv n1 (2 ^ (min ((1 : Int)).toNat 64))) 6148914691236517205) + (intBit .and .u64 n1 6148914691236517205)))
  let n3 : Int := (IntKind.wrap .u64 ((intBit .and .u64 (Int.fdiv n2 (2 ^ (min ((2 : Int)).toNat 64))) 3689348814741910323) + (intBit .and .u64 n2 3689348814741910323)))
  let n4 : Int := (intBit .and .u64 (IntKind.wrap .u64 ((Int.fdiv n3 (2 ^ (min ((4 : Int)).toNat 64))) + n3)) 1085102592571150095)
  let n5 : Int := (Int.fdiv (IntKind.wrap .u64 (n4 + (Int.fdiv n4 (2 ^ (min ((8 : Int)).toNat 64))))) (2 ^ (min ((16 : Int)).toNat 64)))
  let n6 : Int := (Int.fdiv (IntKind.wrap .u64 ((IntKind.wrap .u64 (n4 + (Int.fdiv n4 (2 ^ (min ((8 : Int)).toNat 64))))) + n5)) (2 ^ (min ((32 : Int)).toNat 64)))
  let n7 : Int := (IntKind.wrap .u64 ((IntKind.wrap .u64 ((IntKind.wrap .u64 (n4 + (Int.fdiv n4 (2 ^ (min ((8 : Int)).toNat 64))))) + n5)) + n6))
  ret0 (intBit .and .i64 (IntKind.wrap .i64 n7) 127)

theorem f63_e_mem (k : Nat) (retF : Int → R) (n1 : Int) : exec (f63_E k) f63_code (endK (f63_E k) Try.f63 [] f63_un retF) ⟨[.int .u64 n1, .undef, .undef, .undef, .undef, .undef, .undef, .undef, .undef, .undef, .undef, .undef, .undef, .undef, .undef, .undef, .undef, .undef, .undef, .undef, .undef, .undef, .undef, .undef, .undef, .undef, .undef, .undef, .undef, .undef, .undef, .undef, .undef, .undef, .undef], []⟩ = f63_e (fun y0 => retF y0) n1 := by kernel_rfl

noncomputable def f63_N (k : Nat) (ret0 : Int → R) (n1 : Int) : R :=
  f63_e ret0 n1
theorem f63_eq (k : Nat) (retF : Int → R) (n1 : Int) : exec (f63_E k) f63_code (endK (f63_E k) Try.f63 [] f63_un retF) ⟨[.int .u64 n1, .undef, .undef, .undef, .undef, .undef, .undef, .undef, .undef, .undef, .undef, .undef, .undef, .undef, .undef, .undef, .undef, .undef, .undef, .undef, .undef, .undef, .undef, .undef, .undef, .undef, .undef, .undef, .undef, .undef, .undef, .undef, .undef, .undef, .undef], []⟩ = f63_N k (fun y0 => retF y0) n1 :=
  (f63_e_mem k retF n1)

noncomputable def G63 : Nat → Int → (Int → R) → R
  | 0, _, _ => none
  | k + 1, n1, ret0 => f63_N k  ret0 n1
theorem S63 : ∀ k, Snd Try.prog 63 f63_I f63_O (fun x ret => G63 k x (fun y0 => ret y0))
  | 0 => snd_none
  | k + 1 => snd_step (E := f63_E k ) rfl laidOut noNums orc0_ok (f := 63) (fn := Try.f63) (code := f63_code) Try.func63 (by kernel_rfl) (drawsOk_of laidOut orc0_ok mixed (by kernel_rfl)) f63_un f63_un_ok [] (fun _ => rfl)
      (fun x ret => f63_eq k  ret x)

/- (catchpole/byteset.Set).Len -/
noncomputable def f16_I : PV → List SV × Obs := fun x => ([.val 24 x], [])
noncomputable def f16_D : List SV → Obs → Option (PV)
  | [.val 24 p1], [] => some p1
  | _, _ => none
theorem f16_D_ok (args : List SV) (B : Obs) (x : PV) (h : f16_D args B = some x) : f16_I x = (args, B) := by
  unfold f16_D at h
  split at h
  · injection h with h; subst h; rfl
  · cases h
noncomputable def f16_O : Int → Out := (fun y => ([.int .i64 y], []))
noncomputable def f16_un : Out → Option (Int)
  | ([.int .i64 y0], []) => some y0
  | _ => none
theorem f16_un_ok (o : Out) (y : Int) (h : f16_un o = some y) : o = f16_O y := by
  unfold f16_un at h
  split at h
  · injection h with h; subst h; rfl
  · cases h
noncomputable def f16_msk : Nat → Option (List Nat) := fun key => bif key == 9 then some [3, 6, 7] else none
noncomputable def f16_C (c63 : Int → (Int → R) → R) : Oracle := orc 63 f63_D f63_O (fun x ret => c63 x (fun y0 => ret y0)) <| orc0
noncomputable def f16_E (k : Nat) (c63 : Int → (Int → R) → R) : Env := { P := Try.prog, nilOwn := fun d => false, fldOwn := fun d i => false, ownPar := ownPars, ownRet := false, mask := f16_msk, fuel := k, C := f16_C c63 }
noncomputable def f16_code : Code := Try.f16.body.getD .skip
noncomputable def f16_cw1 : Code := subC f16_code [1, 1, 0, 1, 0, 0]
noncomputable def f16_hw1_0 (p1 : PV) (n3 : Int) (n4 : Int) : St := ⟨[.dead, .dead, .dead, .int .i64 n3, .dead, .dead, .val 24 p1, .int .i64 n4, .dead, .dead, .dead, .dead, .dead, .dead, .dead, .dead], []⟩
noncomputable def f16_w1A (k : Nat) (c63 : Int → (Int → R) → R) (retF : Int → R) (p1 : PV) (n3 : Int) (n4 : Int) : R := loopM (f16_E k c63) f16_cw1 (kont (f16_E k c63) f16_code [1, 1, 0, 1, 0] (endK (f16_E k c63) Try.f16 [] f16_un retF)) k (f16_hw1_0 p1 n3 n4)
noncomputable def f16_w1b0 (c63 : Int → (Int → R) → R) (ret0 : Int → R) (next_w1_0 : Int → Int → R) (p1 : PV) (n3 : Int) (n4 : Int) : R :=
  bif (decide (n4 < (4 : Int))) then
    bif (true && decide ((0 : Int) ≤ n4) && decide (n4 < 4)) then
      c63 (PV.num (PV.fld p1 (n4).toNat)) fun n5 =>
      next_w1_0 (IntKind.wrap .i64 (n3 + n5)) (IntKind.wrap .i64 (n4 + (1 : Int)))
    else none
  else ret0 n3

theorem f16_w1b0_mem (k : Nat) (c63 : Int → (Int → R) → R) (retF : Int → R) (NX_w1 : St → R) (p1 : PV) (n3 : Int) (n4 : Int) : exec (f16_E k c63) f16_cw1 (purgeK (f16_E k c63) f16_cw1 (loopK NX_w1 (kont (f16_E k c63) f16_code [1, 1, 0, 1, 0] (endK (f16_E k c63) Try.f16 [] f16_un retF)))) (f16_hw1_0 p1 n3 n4) = f16_w1b0 c63 (fun y0 => retF y0) (fun n3 n4 => NX_w1 (f16_hw1_0 p1 n3 n4)) p1 n3 n4 := by kernel_rfl

noncomputable def f16_w1b0N (k : Nat) (c63 : Int → (Int → R) → R) (ret0 : Int → R) (next_w1_0 : Int → Int → R) (p1 : PV) (n3 : Int) (n4 : Int) : R :=
  f16_w1b0 c63 ret0 next_w1_0 p1 n3 n4
theorem f16_w1b0_eq (k : Nat) (c63 : Int → (Int → R) → R) (retF : Int → R) (NX_w1 : St → R) (p1 : PV) (n3 : Int) (n4 : Int) : exec (f16_E k c63) f16_cw1 (purgeK (f16_E k c63) f16_cw1 (loopK NX_w1 (kont (f16_E k c63) f16_code [1, 1, 0, 1, 0] (endK (f16_E k c63) Try.f16 [] f16_un retF)))) (f16_hw1_0 p1 n3 n4) = f16_w1b0N k c63 (fun y0 => retF y0) (fun n3 n4 => NX_w1 (f16_hw1_0 p1 n3 n4)) p1 n3 n4 :=
  (f16_w1b0_mem k c63 retF NX_w1 p1 n3 n4)

noncomputable def f16_w1B (k : Nat) (c63 : Int → (Int → R) → R) (ret0 : Int → R) (p1 : PV) (nx : Int × Int → R) : Int × Int → R := (fun s => f16_w1b0N k c63 ret0 (fun n3 n4 => nx (n3, n4)) p1 s.1 s.2)
noncomputable def f16_w1N (k : Nat) (c63 : Int → (Int → R) → R) (ret0 : Int → R) (p1 : PV) (n3 : Int) (n4 : Int) : R := loopR (f16_w1B k c63 ret0 p1) k (n3, n4)
theorem f16_w1_eq (k : Nat) (c63 : Int → (Int → R) → R) (retF : Int → R) (p1 : PV) (n3 : Int) (n4 : Int) : f16_w1A k c63 retF p1 n3 n4 = f16_w1N k c63 (fun y0 => retF y0) p1 n3 n4 :=
  Eq.mp (by kernel_rfl) (loop_sim (E := (f16_E k c63)) (c := f16_cw1) (K := (kont (f16_E k c63) f16_code [1, 1, 0, 1, 0] (endK (f16_E k c63) Try.f16 [] f16_un retF))) (S := Int × Int) (fun s => f16_hw1_0 p1 s.1 s.2) (f16_w1B k c63 (fun y0 => retF y0) p1) (fun NX s => by
    exact Eq.mp (by kernel_rfl) (f16_w1b0_eq k c63 retF NX p1 s.1 s.2)) k (n3, n4))

noncomputable def f16_e (c63 : Int → (Int → R) → R) (ret0 : Int → R) (w1 : Int → Int → R) (p1 : PV) : R :=
  w1 0 0

theorem f16_e_mem (k : Nat) (c63 : Int → (Int → R) → R) (retF : Int → R) (p1 : PV) : exec (f16_E k c63) f16_code (endK (f16_E k c63) Try.f16 [] f16_un retF) ⟨[.val 24 p1, .undef, .undef, .undef, .undef, .undef, .undef, .undef, .undef, .undef, .undef, .undef, .undef, .undef, .undef, .undef], []⟩ = f16_e c63 (fun y0 => retF y0) (fun n3 n4 => f16_w1A k c63 retF p1 n3 n4) p1 := by kernel_rfl

noncomputable def f16_N (k : Nat) (c63 : Int → (Int → R) → R) (ret0 : Int → R) (p1 : PV) : R :=
  f16_e c63 ret0 (fun n3 n4 => f16_w1N k c63 ret0 p1 n3 n4) p1
theorem f16_eq (k : Nat) (c63 : Int → (Int → R) → R) (retF : Int → R) (p1 : PV) : exec (f16_E k c63) f16_code (endK (f16_E k c63) Try.f16 [] f16_un retF) ⟨[.val 24 p1, .undef, .undef, .undef, .undef, .undef, .undef, .undef, .undef, .undef, .undef, .undef, .undef, .undef, .undef, .undef], []⟩ = f16_N k c63 (fun y0 => retF y0) p1 :=
  (f16_e_mem k c63 retF p1).trans (by rw [show (fun n3 n4 => f16_w1A k c63 retF p1 n3 n4) = (fun n3 n4 => f16_w1N k c63 (fun y0 => retF y0) p1 n3 n4) from funext fun n3 => funext fun n4 => f16_w1_eq k c63 retF p1 n3 n4]; rfl)

noncomputable def G16 : Nat → PV → (Int → R) → R
  | 0, _, _ => none
  | k + 1, p1, ret0 => f16_N k (G63 k) ret0 p1
theorem S16 : ∀ k, Snd Try.prog 16 f16_I f16_O (fun x ret => G16 k x (fun y0 => ret y0))
  | 0 => snd_none
  | k + 1 => snd_step (E := f16_E k (G63 k)) rfl laidOut noNums (orc_ok (S63 k).o f63_D_ok orc0_ok) (f := 16) (fn := Try.f16) (code := f16_code) Try.func16 (by kernel_rfl) (drawsOk_of laidOut (orc_ok (S63 k).o f63_D_ok orc0_ok) mixed (by kernel_rfl)) f16_un f16_un_ok [] (fun _ => rfl)
      (fun x ret => f16_eq k (G63 k) ret x)

/- slices.Index[[]int,int] -/
noncomputable def f85_I : PV × Int → List SV × Obs := fun x => ([.val 115 x.1, .int .i64 x.2], [])
noncomputable def f85_D : List SV → Obs → Option (PV × Int)
  | [.val 115 p1, .int .i64 n2], [] => some (p1, n2)
  | _, _ => none
theorem f85_D_ok (args : List SV) (B : Obs) (x : PV × Int) (h : f85_D args B = some x) : f85_I x = (args, B) := by
  unfold f85_D at h
  split at h
  · injection h with h; subst h; rfl
  · cases h
noncomputable def f85_O : Int → Out := (fun y => ([.int .i64 y], []))
noncomputable def f85_un : Out → Option (Int)
  | ([.int .i64 y0], []) => some y0
  | _ => none
theorem f85_un_ok (o : Out) (y : Int) (h : f85_un o = some y) : o = f85_O y := by
  unfold f85_un at h
  split at h
  · injection h with h; subst h; rfl
  · cases h
noncomputable def f85_msk : Nat → Option (List Nat) := fun key => bif key == 6 then some [0, 1, 7, 8] else none
noncomputable def f85_C : Oracle := orc0
noncomputable def f85_E (k : Nat) : Env := { P := Try.prog, nilOwn := fun d => false, fldOwn := fun d i => false, ownPar := ownPars, ownRet := false, mask := f85_msk, fuel := k, C := f85_C }
noncomputable def f85_code : Code := Try.f85.body.getD .skip
noncomputable def f85_cw1 : Code := subC f85_code [1, 0, 1, 0, 0]
noncomputable def f85_hw1_0 (p1 : PV) (n2 : Int) (n3 : Int) : St := ⟨[.val 115 p1, .int .i64 n2, .dead, .dead, .dead, .dead, .dead, .int .i64 (List.length (PV.els p1) : Int), .int .i64 n3, .dead, .dead, .dead, .dead, .dead, .dead, .dead, .dead, .dead, .dead], []⟩
noncomputable def f85_w1A (k : Nat) (retF : Int → R) (p1 : PV) (n2 : Int) (n3 : Int) : R := loopM (f85_E k) f85_cw1 (kont (f85_E k) f85_code [1, 0, 1, 0] (endK (f85_E k) Try.f85 [] f85_un retF)) k (f85_hw1_0 p1 n2 n3)
noncomputable def f85_w1b0 (ret0 : Int → R) (next_w1_0 : Int → R) (p1 : PV) (n2 : Int) (n3 : Int) : R :=
  bif (decide (n3 < (List.length (PV.els p1) : Int))) then
    bif (true && decide ((0 : Int) ≤ n3) && decide (n3 < (List.length (PV.els p1) : Int))) then
      bif (decide (n2 = (PV.num (List.getD (PV.els p1) (n3).toNat PV.nil)))) then
        ret0 n3
      else next_w1_0 (IntKind.wrap .i64 (n3 + (1 : Int)))
    else none
  else ret0 (-1)

theorem f85_w1b0_mem (k : Nat) (retF : Int → R) (NX_w1 : St → R) (p1 : PV) (n2 : Int) (n3 : Int) : exec (f85_E k) f85_cw1 (purgeK (f85_E k) f85_cw1 (loopK NX_w1 (kont (f85_E k) f85_code [1, 0, 1, 0] (endK (f85_E k) Try.f85 [] f85_un retF)))) (f85_hw1_0 p1 n2 n3) = f85_w1b0 (fun y0 => retF y0) (fun n3 => NX_w1 (f85_hw1_0 p1 n2 n3)) p1 n2 n3 := by kernel_rfl

noncomputable def f85_w1b0N (k : Nat) (ret0 : Int → R) (next_w1_0 : Int → R) (p1 : PV) (n2 : Int) (n3 : Int) : R :=
  f85_w1b0 ret0 next_w1_0 p1 n2 n3
theorem f85_w1b0_eq (k : Nat) (retF : Int → R) (NX_w1 : St → R) (p1 : PV) (n2 : Int) (n3 : Int) : exec (f85_E k) f85_cw1 (purgeK (f85_E k) f85_cw1 (loopK NX_w1 (kont (f85_E k) f85_code [1, 0, 1, 0] (endK (f85_E k) Try.f85 [] f85_un retF)))) (f85_hw1_0 p1 n2 n3) = f85_w1b0N k (fun y0 => retF y0) (fun n3 => NX_w1 (f85_hw1_0 p1 n2 n3)) p1 n2 n3 :=
  (f85_w1b0_mem k retF NX_w1 p1 n2 n3)

noncomputable def f85_w1B (k : Nat) (ret0 : Int → R) (p1 : PV) (n2 : Int) (nx : Int → R) : Int → R := (fun s => f85_w1b0N k ret0 (fun n3 => nx n3) p1 n2 s)
noncomputable def f85_w1N (k : Nat) (ret0 : Int → R) (p1 : PV) (n2 : Int) (n3 : Int) : R := loopR (f85_w1B k ret0 p1 n2) k n3
theorem f85_w1_eq (k : Nat) (retF : Int → R) (p1 : PV) (n2 : Int) (n3 : Int) : f85_w1A k retF p1 n2 n3 = f85_w1N k (fun y0 => retF y0) p1 n2 n3 :=
  Eq.mp (by kernel_rfl) (loop_sim (E := (f85_E k)) (c := f85_cw1) (K := (kont (f85_E k) f85_code [1, 0, 1, 0] (endK (f85_E k) Try.f85 [] f85_un retF))) (S := Int) (fun s => f85_hw1_0 p1 n2 s) (f85_w1B k (fun y0 => retF y0) p1 n2) (fun NX s => by
    exact Eq.mp (by kernel_rfl) (f85_w1b0_eq k retF NX p1 n2 s)) k n3)

noncomputable def f85_e (ret0 : Int → R) (w1 : Int → R) (p1 : PV) (n2 : Int) : R :=
  w1 0

theorem f85_e_mem (k : Nat) (retF : Int → R) (p1 : PV) (n2 : Int) : exec (f85_E k) f85_code (endK (f85_E k) Try.f85 [] f85_un retF) ⟨[.val 115 p1, .int .i64 n2, .undef, .undef, .undef, .undef, .undef, .undef, .undef, .undef, .undef, .undef, .undef, .undef, .undef, .undef, .undef, .undef, .undef], []⟩ = f85_e (fun y0 => retF y0) (fun n3 => f85_w1A k retF p1 n2 n3) p1 n2 := by kernel_rfl

noncomputable def f85_N (k : Nat) (ret0 : Int → R) (p1 : PV) (n2 : Int) : R :=
  f85_e ret0 (fun n3 => f85_w1N k ret0 p1 n2 n3) p1 n2
theorem f85_eq (k : Nat) (retF : Int → R) (p1 : PV) (n2 : Int) : exec (f85_E k) f85_code (endK (f85_E k) Try.f85 [] f85_un retF) ⟨[.val 115 p1, .int .i64 n2, .undef, .undef, .undef, .undef, .undef, .undef, .undef, .undef, .undef, .undef, .undef, .undef, .undef, .undef, .undef, .undef, .undef], []⟩ = f85_N k (fun y0 => retF y0) p1 n2 :=
  (f85_e_mem k retF p1 n2).trans (by rw [show (fun n3 => f85_w1A k retF p1 n2 n3) = (fun n3 => f85_w1N k (fun y0 => retF y0) p1 n2 n3) from funext fun n3 => f85_w1_eq k retF p1 n2 n3]; rfl)

noncomputable def G85 : Nat → PV → Int → (Int → R) → R
  | 0, _, _, _ => none
  | k + 1, p1, n2, ret0 => f85_N k  ret0 p1 n2
theorem S85 : ∀ k, Snd Try.prog 85 f85_I f85_O (fun x ret => G85 k x.1 x.2 (fun y0 => ret y0))
  | 0 => snd_none
  | k + 1 => snd_step (E := f85_E k ) rfl laidOut noNums orc0_ok (f := 85) (fn := Try.f85) (code := f85_code) Try.func85 (by kernel_rfl) (drawsOk_of laidOut orc0_ok mixed (by kernel_rfl)) f85_un f85_un_ok [] (fun _ => rfl)
      (fun x ret => f85_eq k  ret x.1 x.2)

/- slices.Contains[[]int,int] -/
noncomputable def f83_I : PV × Int → List SV × Obs := fun x => ([.val 115 x.1, .int .i64 x.2], [])
noncomputable def f83_D : List SV → Obs → Option (PV × Int)
  | [.val 115 p1, .int .i64 n2], [] => some (p1, n2)
  | _, _ => none
theorem f83_D_ok (args : List SV) (B : Obs) (x : PV × Int) (h : f83_D args B = some x) : f83_I x = (args, B) := by
  unfold f83_D at h
  split at h
  · injection h with h; subst h; rfl
  · cases h
noncomputable def f83_O : Bool → Out := (fun y => ([.bool y], []))
noncomputable def f83_un : Out → Option (Bool)
  | ([.bool y0], []) => some y0
  | _ => none
theorem f83_un_ok (o : Out) (y : Bool) (h : f83_un o = some y) : o = f83_O y := by
  unfold f83_un at h
  split at h
  · injection h with h; subst h; rfl
  · cases h
noncomputable def f83_msk : Nat → Option (List Nat) := fun key =>  none
noncomputable def f83_C (c85 : PV → Int → (Int → R) → R) : Oracle := orc 85 f85_D f85_O (fun x ret => c85 x.1 x.2 (fun y0 => ret y0)) <| orc0
noncomputable def f83_E (k : Nat) (c85 : PV → Int → (Int → R) → R) : Env := { P := Try.prog, nilOwn := fun d => false, fldOwn := fun d i => false, ownPar := ownPars, ownRet := false, mask := f83_msk, fuel := k, C := f83_C c85 }
noncomputable def f83_code : Code := Try.f83.body.getD .skip
noncomputable def f83_e (c85 : PV → Int → (Int → R) → R) (ret0 : Bool → R) (p1 : PV) (n2 : Int) : R :=
  c85 p1 n2 fun n3 =>
  ret0 (decide ((0 : Int) ≤ n3))

theorem f83_e_mem (k : Nat) (c85 : PV → Int → (Int → R) → R) (retF : Bool → R) (p1 : PV) (n2 : Int) : exec (f83_E k c85) f83_code (endK (f83_E k c85) Try.f83 [] f83_un retF) ⟨[.val 115 p1, .int .i64 n2, .undef, .undef, .undef, .undef, .undef, .undef, .undef], []⟩ = f83_e c85 (fun y0 => retF y0) p1 n2 := by kernel_rfl

noncomputable def f83_N (k : Nat) (c85 : PV → Int → (Int → R) → R) (ret0 : Bool → R) (p1 : PV) (n2 : Int) : R :=
  f83_e c85 ret0 p1 n2
theorem f83_eq (k : Nat) (c85 : PV → Int → (Int → R) → R) (retF : Bool → R) (p1 : PV) (n2 : Int) : exec (f83_E k c85) f83_code (endK (f83_E k c85) Try.f83 [] f83_un retF) ⟨[.val 115 p1, .int .i64 n2, .undef, .undef, .undef, .undef, .undef, .undef, .undef], []⟩ = f83_N k c85 (fun y0 => retF y0) p1 n2 :=
  (f83_e_mem k c85 retF p1 n2)

noncomputable def G83 : Nat → PV → Int → (Bool → R) → R
  | 0, _, _, _ => none
  | k + 1, p1, n2, ret0 => f83_N k (G85 k) ret0 p1 n2
theorem S83 : ∀ k, Snd Try.prog 83 f83_I f83_O (fun x ret => G83 k x.1 x.2 (fun y0 => ret y0))
  | 0 => snd_none
  | k + 1 => snd_step (E := f83_E k (G85 k)) rfl laidOut noNums (orc_ok (S85 k).o f85_D_ok orc0_ok) (f := 83) (fn := Try.f83) (code := f83_code) Try.func83 (by kernel_rfl) (drawsOk_of laidOut (orc_ok (S85 k).o f85_D_ok orc0_ok) mixed (by kernel_rfl)) f83_un f83_un_ok [] (fun _ => rfl)
      (fun x ret => f83_eq k (G85 k) ret x.1 x.2)

/- catchpole/tree.shaped$1 -/
noncomputable def f82_I : PV × PV → List SV × Obs := fun x => ([.val 70 x.1, .ptr 4000000 []], [(4000000, .box 115 (.val 115 x.2))])
noncomputable def f82_D : List SV → Obs → Option (PV × PV)
  | [.val 70 p1, .ptr 4000000 []], [(4000000, .box 115 (.val 115 p2))] => some (p1, p2)
  | _, _ => none
theorem f82_D_ok (args : List SV) (B : Obs) (x : PV × PV) (h : f82_D args B = some x) : f82_I x = (args, B) := by
  unfold f82_D at h
  split at h
  · injection h with h; subst h; rfl
  · cases h
noncomputable def f82_O : Bool × PV → Out := (fun y => ([.bool y.1], [(4000000, .box 115 (.val 115 y.2))]))
noncomputable def f82_un : Out → Option (Bool × PV)
  | ([.bool y0], [(4000000, .box 115 (.val 115 y1))]) => some (y0, y1)
  | _ => none
theorem f82_un_ok (o : Out) (y : Bool × PV) (h : f82_un o = some y) : o = f82_O y := by
  unfold f82_un at h
  split at h
  · injection h with h; subst h; rfl
  · cases h
noncomputable def f82_msk : Nat → Option (List Nat) := fun key =>  none
noncomputable def f82_C (c83 : PV → Int → (Bool → R) → R) : Oracle := orc 83 f83_D f83_O (fun x ret => c83 x.1 x.2 (fun y0 => ret y0)) <| orc0
noncomputable def f82_E (k : Nat) (c83 : PV → Int → (Bool → R) → R) : Env := { P := Try.prog, nilOwn := fun d => false, fldOwn := fun d i => false, ownPar := ownPars, ownRet := false, mask := f82_msk, fuel := k, C := f82_C c83 }
noncomputable def f82_code : Code := Try.f82.body.getD .skip
noncomputable def f82_e (c83 : PV → Int → (Bool → R) → R) (ret0 : Bool → PV → R) (p1 : PV) (p2 : PV) : R :=
  c83 p2 (PV.num (PV.fld p1 0)) fun b3 =>
  ret0 (!b3) p2

theorem f82_e_mem (k : Nat) (c83 : PV → Int → (Bool → R) → R) (retF : Bool × PV → R) (p1 : PV) (p2 : PV) : exec (f82_E k c83) f82_code (endK (f82_E k c83) Try.f82 [4000000] f82_un retF) ⟨[.val 70 p1, .ptr 4000000 [], .undef, .undef, .undef, .undef, .undef, .undef, .undef], [(4000000, .box 115 (.val 115 p2))]⟩ = f82_e c83 (fun y0 y1 => retF (y0, y1)) p1 p2 := by kernel_rfl

noncomputable def f82_N (k : Nat) (c83 : PV → Int → (Bool → R) → R) (ret0 : Bool → PV → R) (p1 : PV) (p2 : PV) : R :=
  f82_e c83 ret0 p1 p2
theorem f82_eq (k : Nat) (c83 : PV → Int → (Bool → R) → R) (retF : Bool × PV → R) (p1 : PV) (p2 : PV) : exec (f82_E k c83) f82_code (endK (f82_E k c83) Try.f82 [4000000] f82_un retF) ⟨[.val 70 p1, .ptr 4000000 [], .undef, .undef, .undef, .undef, .undef, .undef, .undef], [(4000000, .box 115 (.val 115 p2))]⟩ = f82_N k c83 (fun y0 y1 => retF (y0, y1)) p1 p2 :=
  (f82_e_mem k c83 retF p1 p2)

noncomputable def G82 : Nat → PV → PV → (Bool → PV → R) → R
  | 0, _, _, _ => none
  | k + 1, p1, p2, ret0 => f82_N k (G83 k) ret0 p1 p2
theorem S82 : ∀ k, Snd Try.prog 82 f82_I f82_O (fun x ret => G82 k x.1 x.2 (fun y0 y1 => ret (y0, y1)))
  | 0 => snd_none
  | k + 1 => snd_step (E := f82_E k (G83 k)) rfl laidOut noNums (orc_ok (S83 k).o f83_D_ok orc0_ok) (f := 82) (fn := Try.f82) (code := f82_code) Try.func82 (by kernel_rfl) (drawsOk_of laidOut (orc_ok (S83 k).o f83_D_ok orc0_ok) mixed (by kernel_rfl)) f82_un f82_un_ok [4000000] (fun _ => rfl)
      (fun x ret => f82_eq k (G83 k) ret x.1 x.2)

/- slices.IndexFunc[[]catchpole/tree.Node,catchpole/tree.Node] -/
noncomputable def f86_I : PV × PV → List SV × Obs := fun x => ([.val 68 x.1, .fn 82 [.ptr 4001000 []]], [(4001000, .box 115 (.val 115 x.2))])
noncomputable def f86_D : List SV → Obs → Option (PV × PV)
  | [.val 68 p1, .fn 82 [.ptr 4001000 []]], [(4001000, .box 115 (.val 115 p2))] => some (p1, p2)
  | _, _ => none
theorem f86_D_ok (args : List SV) (B : Obs) (x : PV × PV) (h : f86_D args B = some x) : f86_I x = (args, B) := by
  unfold f86_D at h
  split at h
  · injection h with h; subst h; rfl
  · cases h
noncomputable def f86_O : Int × PV → Out := (fun y => ([.int .i64 y.1], [(4001000, .box 115 (.val 115 y.2))]))
noncomputable def f86_un : Out → Option (Int × PV)
  | ([.int .i64 y0], [(4001000, .box 115 (.val 115 y1))]) => some (y0, y1)
  | _ => none
theorem f86_un_ok (o : Out) (y : Int × PV) (h : f86_un o = some y) : o = f86_O y := by
  unfold f86_un at h
  split at h
  · injection h with h; subst h; rfl
  · cases h
noncomputable def f86_msk : Nat → Option (List Nat) := fun key => bif key == 6 then some [0, 1, 7, 8] else none
noncomputable def f86_C (c82 : PV → PV → (Bool → PV → R) → R) : Oracle := orc 82 f82_D f82_O (fun x ret => c82 x.1 x.2 (fun y0 y1 => ret (y0, y1))) <| orc0
noncomputable def f86_E (k : Nat) (c82 : PV → PV → (Bool → PV → R) → R) : Env := { P := Try.prog, nilOwn := fun d => false, fldOwn := fun d i => false, ownPar := ownPars, ownRet := false, mask := f86_msk, fuel := k, C := f86_C c82 }
noncomputable def f86_code : Code := Try.f86.body.getD .skip
noncomputable def f86_cw1 : Code := subC f86_code [1, 0, 1, 0, 0]
noncomputable def f86_hw1_0 (p1 : PV) (n5 : Int) (p6 : PV) : St := ⟨[.val 68 p1, .fn 82 [.ptr 4001000 []], .dead, .dead, .dead, .dead, .dead, .int .i64 (List.length (PV.els p1) : Int), .int .i64 n5, .dead, .dead, .dead, .dead, .dead, .dead, .dead, .dead, .dead, .dead], [(4001000, .box 115 (.val 115 p6))]⟩
noncomputable def f86_w1A (k : Nat) (c82 : PV → PV → (Bool → PV → R) → R) (retF : Int × PV → R) (p1 : PV) (n5 : Int) (p6 : PV) : R := loopM (f86_E k c82) f86_cw1 (kont (f86_E k c82) f86_code [1, 0, 1, 0] (endK (f86_E k c82) Try.f86 [4001000] f86_un retF)) k (f86_hw1_0 p1 n5 p6)
noncomputable def f86_w1b0 (c82 : PV → PV → (Bool → PV → R) → R) (ret0 : Int → PV → R) (next_w1_0 : Int → PV → R) (p1 : PV) (n5 : Int) (p6 : PV) : R :=
  bif (decide (n5 < (List.length (PV.els p1) : Int))) then
    bif (true && decide ((0 : Int) ≤ n5) && decide (n5 < (List.length (PV.els p1) : Int))) then
      c82 (List.getD (PV.els p1) (n5).toNat PV.nil) p6 fun b7 p8 =>
      bif b7 then
        ret0 n5 p8
      else next_w1_0 (IntKind.wrap .i64 (n5 + (1 : Int))) p8
    else none
  else ret0 (-1) p6

theorem f86_w1b0_mem (k : Nat) (c82 : PV → PV → (Bool → PV → R) → R) (retF : Int × PV → R) (NX_w1 : St → R) (p1 : PV) (n5 : Int) (p6 : PV) : exec (f86_E k c82) f86_cw1 (purgeK (f86_E k c82) f86_cw1 (loopK NX_w1 (kont (f86_E k c82) f86_code [1, 0, 1, 0] (endK (f86_E k c82) Try.f86 [4001000] f86_un retF)))) (f86_hw1_0 p1 n5 p6) = f86_w1b0 c82 (fun y0 y1 => retF (y0, y1)) (fun n5 p6 => NX_w1 (f86_hw1_0 p1 n5 p6)) p1 n5 p6 := by kernel_rfl

noncomputable def f86_w1b0N (k : Nat) (c82 : PV → PV → (Bool → PV → R) → R) (ret0 : Int → PV → R) (next_w1_0 : Int → PV → R) (p1 : PV) (n5 : Int) (p6 : PV) : R :=
  f86_w1b0 c82 ret0 next_w1_0 p1 n5 p6
theorem f86_w1b0_eq (k : Nat) (c82 : PV → PV → (Bool → PV → R) → R) (retF : Int × PV → R) (NX_w1 : St → R) (p1 : PV) (n5 : Int) (p6 : PV) : exec (f86_E k c82) f86_cw1 (purgeK (f86_E k c82) f86_cw1 (loopK NX_w1 (kont (f86_E k c82) f86_code [1, 0, 1, 0] (endK (f86_E k c82) Try.f86 [4001000] f86_un retF)))) (f86_hw1_0 p1 n5 p6) = f86_w1b0N k c82 (fun y0 y1 => retF (y0, y1)) (fun n5 p6 => NX_w1 (f86_hw1_0 p1 n5 p6)) p1 n5 p6 :=
  (f86_w1b0_mem k c82 retF NX_w1 p1 n5 p6)

noncomputable def f86_w1B (k : Nat) (c82 : PV → PV → (Bool → PV → R) → R) (ret0 : Int → PV → R) (p1 : PV) (nx : Int × PV → R) : Int × PV → R := (fun s => f86_w1b0N k c82 ret0 (fun n5 p6 => nx (n5, p6)) p1 s.1 s.2)
noncomputable def f86_w1N (k : Nat) (c82 : PV → PV → (Bool → PV → R) → R) (ret0 : Int → PV → R) (p1 : PV) (n5 : Int) (p6 : PV) : R := loopR (f86_w1B k c82 ret0 p1) k (n5, p6)
theorem f86_w1_eq (k : Nat) (c82 : PV → PV → (Bool → PV → R) → R) (retF : Int × PV → R) (p1 : PV) (n5 : Int) (p6 : PV) : f86_w1A k c82 retF p1 n5 p6 = f86_w1N k c82 (fun y0 y1 => retF (y0, y1)) p1 n5 p6 :=
  Eq.mp (by kernel_rfl) (loop_sim (E := (f86_E k c82)) (c := f86_cw1) (K := (kont (f86_E k c82) f86_code [1, 0, 1, 0] (endK (f86_E k c82) Try.f86 [4001000] f86_un retF))) (S := Int × PV) (fun s => f86_hw1_0 p1 s.1 s.2) (f86_w1B k c82 (fun y0 y1 => retF (y0, y1)) p1) (fun NX s => by
    exact Eq.mp (by kernel_rfl) (f86_w1b0_eq k c82 retF NX p1 s.1 s.2)) k (n5, p6))

noncomputable def f86_e (c82 : PV → PV → (Bool → PV → R) → R) (ret0 : Int → PV → R) (w1 : Int → PV → R) (p1 : PV) (p2 : PV) : R :=
  w1 0 p2

theorem f86_e_mem (k : Nat) (c82 : PV → PV → (Bool → PV → R) → R) (retF : Int × PV → R) (p1 : PV) (p2 : PV) : exec (f86_E k c82) f86_code (endK (f86_E k c82) Try.f86 [4001000] f86_un retF) ⟨[.val 68 p1, .fn 82 [.ptr 4001000 []], .undef, .undef, .undef, .undef, .undef, .undef, .undef, .undef, .undef, .undef, .undef, .undef, .undef, .undef, .undef, .undef, .undef], [(4001000, .box 115 (.val 115 p2))]⟩ = f86_e c82 (fun y0 y1 => retF (y0, y1)) (fun n5 p6 => f86_w1A k c82 retF p1 n5 p6) p1 p2 := by kernel_rfl

noncomputable def f86_N (k : Nat) (c82 : PV → PV → (Bool → PV → R) → R) (ret0 : Int → PV → R) (p1 : PV) (p2 : PV) : R :=
  f86_e c82 ret0 (fun n5 p6 => f86_w1N k c82 ret0 p1 n5 p6) p1 p2
theorem f86_eq (k : Nat) (c82 : PV → PV → (Bool → PV → R) → R) (retF : Int × PV → R) (p1 : PV) (p2 : PV) : exec (f86_E k c82) f86_code (endK (f86_E k c82) Try.f86 [4001000] f86_un retF) ⟨[.val 68 p1, .fn 82 [.ptr 4001000 []], .undef, .undef, .undef, .undef, .undef, .undef, .undef, .undef, .undef, .undef, .undef, .undef, .undef, .undef, .undef, .undef, .undef], [(4001000, .box 115 (.val 115 p2))]⟩ = f86_N k c82 (fun y0 y1 => retF (y0, y1)) p1 p2 :=
  (f86_e_mem k c82 retF p1 p2).trans (by rw [show (fun n5 p6 => f86_w1A k c82 retF p1 n5 p6) = (fun n5 p6 => f86_w1N k c82 (fun y0 y1 => retF (y0, y1)) p1 n5 p6) from funext fun n5 => funext fun p6 => f86_w1_eq k c82 retF p1 n5 p6]; rfl)

noncomputable def G86 : Nat → PV → PV → (Int → PV → R) → R
  | 0, _, _, _ => none
  | k + 1, p1, p2, ret0 => f86_N k (G82 k) ret0 p1 p2
theorem S86 : ∀ k, Snd Try.prog 86 f86_I f86_O (fun x ret => G86 k x.1 x.2 (fun y0 y1 => ret (y0, y1)))
  | 0 => snd_none
  | k + 1 => snd_step (E := f86_E k (G82 k)) rfl laidOut noNums (orc_ok (S82 k).o f82_D_ok orc0_ok) (f := 86) (fn := Try.f86) (code := f86_code) Try.func86 (by kernel_rfl) (drawsOk_of laidOut (orc_ok (S82 k).o f82_D_ok orc0_ok) mixed (by kernel_rfl)) f86_un f86_un_ok [4001000] (fun _ => rfl)
      (fun x ret => f86_eq k (G82 k) ret x.1 x.2)

/- slices.ContainsFunc[[]catchpole/tree.Node,catchpole/tree.Node] -/
noncomputable def f84_I : PV × PV → List SV × Obs := fun x => ([.val 68 x.1, .fn 82 [.ptr 4001000 []]], [(4001000, .box 115 (.val 115 x.2))])
noncomputable def f84_D : List SV → Obs → Option (PV × PV)
  | [.val 68 p1, .fn 82 [.ptr 4001000 []]], [(4001000, .box 115 (.val 115 p2))] => some (p1, p2)
  | _, _ => none
theorem f84_D_ok (args : List SV) (B : Obs) (x : PV × PV) (h : f84_D args B = some x) : f84_I x = (args, B) := by
  unfold f84_D at h
  split at h
  · injection h with h; subst h; rfl
  · cases h
noncomputable def f84_O : Bool × PV → Out := (fun y => ([.bool y.1], [(4001000, .box 115 (.val 115 y.2))]))
noncomputable def f84_un : Out → Option (Bool × PV)
  | ([.bool y0], [(4001000, .box 115 (.val 115 y1))]) => some (y0, y1)
  | _ => none
theorem f84_un_ok (o : Out) (y : Bool × PV) (h : f84_un o = some y) : o = f84_O y := by
  unfold f84_un at h
  split at h
  · injection h with h; subst h; rfl
  · cases h
noncomputable def f84_msk : Nat → Option (List Nat) := fun key =>  none
noncomputable def f84_C (c86 : PV → PV → (Int → PV → R) → R) : Oracle := orc 86 f86_D f86_O (fun x ret => c86 x.1 x.2 (fun y0 y1 => ret (y0, y1))) <| orc0
noncomputable def f84_E (k : Nat) (c86 : PV → PV → (Int → PV → R) → R) : Env := { P := Try.prog, nilOwn := fun d => false, fldOwn := fun d i => false, ownPar := ownPars, ownRet := false, mask := f84_msk, fuel := k, C := f84_C c86 }
noncomputable def f84_code : Code := Try.f84.body.getD .skip
noncomputable def f84_e (c86 : PV → PV → (Int → PV → R) → R) (ret0 : Bool → PV → R) (p1 : PV) (p2 : PV) : R :=
  c86 p1 p2 fun n3 p4 =>
  ret0 (decide ((0 : Int) ≤ n3)) p4

theorem f84_e_mem (k : Nat) (c86 : PV → PV → (Int → PV → R) → R) (retF : Bool × PV → R) (p1 : PV) (p2 : PV) : exec (f84_E k c86) f84_code (endK (f84_E k c86) Try.f84 [4001000] f84_un retF) ⟨[.val 68 p1, .fn 82 [.ptr 4001000 []], .undef, .undef, .undef, .undef, .undef, .undef, .undef], [(4001000, .box 115 (.val 115 p2))]⟩ = f84_e c86 (fun y0 y1 => retF (y0, y1)) p1 p2 := by kernel_rfl

noncomputable def f84_N (k : Nat) (c86 : PV → PV → (Int → PV → R) → R) (ret0 : Bool → PV → R) (p1 : PV) (p2 : PV) : R :=
  f84_e c86 ret0 p1 p2
theorem f84_eq (k : Nat) (c86 : PV → PV → (Int → PV → R) → R) (retF : Bool × PV → R) (p1 : PV) (p2 : PV) : exec (f84_E k c86) f84_code (endK (f84_E k c86) Try.f84 [4001000] f84_un retF) ⟨[.val 68 p1, .fn 82 [.ptr 4001000 []], .undef, .undef, .undef, .undef, .undef, .undef, .undef], [(4001000, .box 115 (.val 115 p2))]⟩ = f84_N k c86 (fun y0 y1 => retF (y0, y1)) p1 p2 :=
  (f84_e_mem k c86 retF p1 p2)

noncomputable def G84 : Nat → PV → PV → (Bool → PV → R) → R
  | 0, _, _, _ => none
  | k + 1, p1, p2, ret0 => f84_N k (G86 k) ret0 p1 p2
theorem S84 : ∀ k, Snd Try.prog 84 f84_I f84_O (fun x ret => G84 k x.1 x.2 (fun y0 y1 => ret (y0, y1)))
  | 0 => snd_none
  | k + 1 => snd_step (E := f84_E k (G86 k)) rfl laidOut noNums (orc_ok (S86 k).o f86_D_ok orc0_ok) (f := 84) (fn := Try.f84) (code := f84_code) Try.func84 (by kernel_rfl) (drawsOk_of laidOut (orc_ok (S86 k).o f86_D_ok orc0_ok) mixed (by kernel_rfl)) f84_un f84_un_ok [4001000] (fun _ => rfl)
      (fun x ret => f84_eq k (G86 k) ret x.1 x.2)

/- catchpole/tree.shaped -/
noncomputable def f81_I : PV → List SV × Obs := fun x => ([.val 70 x], [])
noncomputable def f81_D : List SV → Obs → Option (PV)
  | [.val 70 p1], [] => some p1
  | _, _ => none
theorem f81_D_ok (args : List SV) (B : Obs) (x : PV) (h : f81_D args B = some x) : f81_I x = (args, B) := by
  unfold f81_D at h
  split at h
  · injection h with h; subst h; rfl
  · cases h
noncomputable def f81_O : Bool → Out := (fun y => ([.bool y], []))
noncomputable def f81_un : Out → Option (Bool)
  | ([.bool y0], []) => some y0
  | _ => none
theorem f81_un_ok (o : Out) (y : Bool) (h : f81_un o = some y) : o = f81_O y := by
  unfold f81_un at h
  split at h
  · injection h with h; subst h; rfl
  · cases h
noncomputable def f81_msk : Nat → Option (List Nat) := fun key =>  none
noncomputable def f81_C (c16 : PV → (Int → R) → R) (c84 : PV → PV → (Bool → PV → R) → R) : Oracle := orc 16 f16_D f16_O (fun x ret => c16 x (fun y0 => ret y0)) <| orc 84 f84_D f84_O (fun x ret => c84 x.1 x.2 (fun y0 y1 => ret (y0, y1))) <| orc0
noncomputable def f81_E (k : Nat) (c16 : PV → (Int → R) → R) (c84 : PV → PV → (Bool → PV → R) → R) : Env := { P := Try.prog, nilOwn := fun d => false, fldOwn := fun d i => false, ownPar := ownPars, ownRet := false, mask := f81_msk, fuel := k, C := f81_C c16 c84 }
noncomputable def f81_code : Code := Try.f81.body.getD .skip
noncomputable def f81_e (c16 : PV → (Int → R) → R) (c84 : PV → PV → (Bool → PV → R) → R) (ret0 : Bool → R) (p1 : PV) : R :=
  bif (decide ((PV.num (PV.fld p1 0)) = (1 : Int))) then
    c16 (PV.fld p1 1) fun n2 =>
    bif ((decide ((0 : Int) < n2)) == true) then
      ret0 (decide ((List.length (PV.els (PV.fld p1 5)) : Int) = (0 : Int)))
    else ret0 false
  else bif (decide ((PV.num (PV.fld p1 0)) = (2 : Int))) then
    bif ((decide ((2 : Int) ≤ (List.length (PV.els (PV.fld p1 5)) : Int))) == true) then
      bif ((decide ((List.length (PV.els (PV.fld p1 5)) : Int) ≤ (100000 : Int))) == true) then
        c84 (PV.fld p1 5) (PV.list [(PV.int 1), (PV.int 4), (PV.int 5), (PV.int 6)]) fun b3 p4 =>
        ret0 (!b3)
      else ret0 false
    else ret0 false
  else bif (decide ((PV.num (PV.fld p1 0)) = (3 : Int))) then
    bif ((decide ((2 : Int) ≤ (List.length (PV.els (PV.fld p1 5)) : Int))) == true) then
      bif ((decide ((List.length (PV.els (PV.fld p1 5)) : Int) ≤ (100000 : Int))) == true) then
        c84 (PV.fld p1 5) (PV.list [(PV.int 1), (PV.int 2), (PV.int 4), (PV.int 5), (PV.int 6)]) fun b5 p6 =>
        ret0 (!b5)
      else ret0 false
    else ret0 false
  else bif (decide ((PV.num (PV.fld p1 0)) = (4 : Int))) then
    bif ((decide ((PV.num (PV.fld p1 2)) < (0 : Int))) == false) then
      bif ((decide ((255 : Int) < (PV.num (PV.fld p1 2)))) == false) then
        bif ((!(decide ((PV.num (PV.fld p1 3)) = (-1 : Int)))) == true) then
          bif ((decide ((PV.num (PV.fld p1 3)) < (PV.num (PV.fld p1 2)))) == false) then
            bif (decide ((255 : Int) < (PV.num (PV.fld p1 3)))) then
              ret0 false
            else bif ((decide ((1 : Int) ≤ (List.length (PV.els (PV.fld p1 5)) : Int))) == true) then
              bif ((decide ((List.length (PV.els (PV.fld p1 5)) : Int) ≤ (1 : Int))) == true) then
                c84 (PV.fld p1 5) (PV.list [(PV.int 1), (PV.int 5), (PV.int 6)]) fun b7 p8 =>
                ret0 (!b7)
              else ret0 false
            else ret0 false
          else ret0 false
        else bif ((decide ((1 : Int) ≤ (List.length (PV.els (PV.fld p1 5)) : Int))) == true) then
          bif ((decide ((List.length (PV.els (PV.fld p1 5)) : Int) ≤ (1 : Int))) == true) then
            c84 (PV.fld p1 5) (PV.list [(PV.int 1), (PV.int 5), (PV.int 6)]) fun b9 p10 =>
            ret0 (!b9)
          else ret0 false
        else ret0 false
      else ret0 false
    else ret0 false
  else bif (decide ((PV.num (PV.fld p1 0)) = (5 : Int))) then
    bif ((decide ((1 : Int) ≤ (List.length (PV.els (PV.fld p1 5)) : Int))) == true) then
      bif ((decide ((List.length (PV.els (PV.fld p1 5)) : Int) ≤ (1 : Int))) == true) then
        c84 (PV.fld p1 5) (PV.list [(PV.int 1), (PV.int 2), (PV.int 3), (PV.int 4), (PV.int 5), (PV.int 6)]) fun b11 p12 =>
        ret0 (!b11)
      else ret0 false
    else ret0 false
  else bif (decide ((PV.num (PV.fld p1 0)) = (6 : Int))) then
    bif ((decide ((1 : Int) ≤ (List.length (PV.els (PV.fld p1 5)) : Int))) == true) then
      bif ((decide ((List.length (PV.els (PV.fld p1 5)) : Int) ≤ (1 : Int))) == true) then
        c84 (PV.fld p1 5) (PV.list [(PV.int 1), (PV.int 2), (PV.int 3), (PV.int 4), (PV.int 5), (PV.int 6)]) fun b13 p14 =>
        ret0 (!b13)
      else ret0 false
    else ret0 false
  else ret0 false

theorem f81_e_mem (k : Nat) (c16 : PV → (Int → R) → R) (c84 : PV → PV → (Bool → PV → R) → R) (retF : Bool → R) (p1 : PV) : exec (f81_E k c16 c84) f81_code (endK (f81_E k c16 c84) Try.f81 [] f81_un retF) ⟨[.val 70 p1, .undef, .undef, .undef, .undef, .undef, .undef, .undef, .undef, .undef, .undef, .undef, .undef, .undef, .undef, .undef, .undef, .undef, .undef, .undef, .undef, .undef, .undef, .undef, .undef, .undef, .undef, .undef, .undef, .undef, .undef, .undef, .undef, .undef, .undef, .undef, .undef, .undef, .undef, .undef, .undef, .undef, .undef, .undef, .undef, .undef, .undef, .undef, .undef, .undef, .undef, .undef, .undef, .undef, .undef, .undef, .undef, .undef, .undef, .undef, .undef, .undef, .undef, .undef, .undef, .undef, .undef, .undef, .undef, .undef, .undef, .undef, .undef, .undef, .undef, .undef, .undef, .undef, .undef], []⟩ = f81_e c16 c84 (fun y0 => retF y0) p1 := by kernel_rfl

noncomputable def f81_N (k : Nat) (c16 : PV → (Int → R) → R) (c84 : PV → PV → (Bool → PV → R) → R) (ret0 : Bool → R) (p1 : PV) : R :=
  f81_e c16 c84 ret0 p1
theorem f81_eq (k : Nat) (c16 : PV → (Int → R) → R) (c84 : PV → PV → (Bool → PV → R) → R) (retF : Bool → R) (p1 : PV) : exec (f81_E k c16 c84) f81_code (endK (f81_E k c16 c84) Try.f81 [] f81_un retF) ⟨[.val 70 p1, .undef, .undef, .undef, .undef, .undef, .undef, .undef, .undef, .undef, .undef, .undef, .undef, .undef, .undef, .undef, .undef, .undef, .undef, .undef, .undef, .undef, .undef, .undef, .undef, .undef, .undef, .undef, .undef, .undef, .undef, .undef, .undef, .undef, .undef, .undef, .undef, .undef, .undef, .undef, .undef, .undef, .undef, .undef, .undef, .undef, .undef, .undef, .undef, .undef, .undef, .undef, .undef, .undef, .undef, .undef, .undef, .undef, .undef, .undef, .undef, .undef, .undef, .undef, .undef, .undef, .undef, .undef, .undef, .undef, .undef, .undef, .undef, .undef, .undef, .undef, .undef, .undef, .undef], []⟩ = f81_N k c16 c84 (fun y0 => retF y0) p1 :=
  (f81_e_mem k c16 c84 retF p1)

noncomputable def G81 : Nat → PV → (Bool → R) → R
  | 0, _, _ => none
  | k + 1, p1, ret0 => f81_N k (G16 k) (G84 k) ret0 p1
theorem S81 : ∀ k, Snd Try.prog 81 f81_I f81_O (fun x ret => G81 k x (fun y0 => ret y0))
  | 0 => snd_none
  | k + 1 => snd_step (E := f81_E k (G16 k) (G84 k)) rfl laidOut noNums (orc_ok (S16 k).o f16_D_ok (orc_ok (S84 k).o f84_D_ok orc0_ok)) (f := 81) (fn := Try.f81) (code := f81_code) Try.func81 (by kernel_rfl) (drawsOk_of laidOut (orc_ok (S16 k).o f16_D_ok (orc_ok (S84 k).o f84_D_ok orc0_ok)) mixed (by kernel_rfl)) f81_un f81_un_ok [] (fun _ => rfl)
      (fun x ret => f81_eq k (G16 k) (G84 k) ret x)

/- catchpole/tree.good -/
noncomputable def f73_I : PV × Int → List SV × Obs := fun x => ([.val 70 x.1, .int .i64 x.2], [])
noncomputable def f73_D : List SV → Obs → Option (PV × Int)
  | [.val 70 p1, .int .i64 n2], [] => some (p1, n2)
  | _, _ => none
theorem f73_D_ok (args : List SV) (B : Obs) (x : PV × Int) (h : f73_D args B = some x) : f73_I x = (args, B) := by
  unfold f73_D at h
  split at h
  · injection h with h; subst h; rfl
  · cases h
noncomputable def f73_O : Int × Bool → Out := (fun y => ([.int .i64 y.1, .bool y.2], []))
noncomputable def f73_un : Out → Option (Int × Bool)
  | ([.int .i64 y0, .bool y1], []) => some (y0, y1)
  | _ => none
theorem f73_un_ok (o : Out) (y : Int × Bool) (h : f73_un o = some y) : o = f73_O y := by
  unfold f73_un at h
  split at h
  · injection h with h; subst h; rfl
  · cases h
noncomputable def f73_msk : Nat → Option (List Nat) := fun key => bif key == 24 then some [1, 27, 28, 29] else none
noncomputable def f73_C (c73 : PV → Int → (Int → Bool → R) → R) (c80 : PV → (Bool → R) → R) (c81 : PV → (Bool → R) → R) : Oracle := orc 73 f73_D f73_O (fun x ret => c73 x.1 x.2 (fun y0 y1 => ret (y0, y1))) <| orc 80 f80_D f80_O (fun x ret => c80 x (fun y0 => ret y0)) <| orc 81 f81_D f81_O (fun x ret => c81 x (fun y0 => ret y0)) <| orc0
noncomputable def f73_E (k : Nat) (c73 : PV → Int → (Int → Bool → R) → R) (c80 : PV → (Bool → R) → R) (c81 : PV → (Bool → R) → R) : Env := { P := Try.prog, nilOwn := fun d => false, fldOwn := fun d i => false, ownPar := ownPars, ownRet := false, mask := f73_msk, fuel := k, C := f73_C c73 c80 c81 }
noncomputable def f73_code : Code := Try.f73.body.getD .skip
noncomputable def f73_cw1 : Code := subC f73_code [1, 1, 1, 0, 1, 0, 0]
noncomputable def f73_hw1_0 (p1 : PV) (n7 : Int) (n8 : Int) : St := ⟨[.dead, .int .i64 n7, .dead, .dead, .dead, .dead, .dead, .dead, .dead, .dead, .dead, .dead, .dead, .dead, .dead, .dead, .dead, .dead, .dead, .dead, .dead, .dead, .dead, .dead, .dead, .dead, .dead, .val 68 (PV.fld p1 5), .int .i64 (List.length (PV.els (PV.fld p1 5)) : Int), .int .i64 n8, .dead, .dead, .dead, .dead, .dead, .dead, .dead, .dead, .dead, .dead, .dead, .dead, .dead], []⟩
noncomputable def f73_w1A (k : Nat) (c73 : PV → Int → (Int → Bool → R) → R) (c80 : PV → (Bool → R) → R) (c81 : PV → (Bool → R) → R) (retF : Int × Bool → R) (p1 : PV) (n7 : Int) (n8 : Int) : R := loopM (f73_E k c73 c80 c81) f73_cw1 (kont (f73_E k c73 c80 c81) f73_code [1, 1, 1, 0, 1, 0] (endK (f73_E k c73 c80 c81) Try.f73 [] f73_un retF)) k (f73_hw1_0 p1 n7 n8)
noncomputable def f73_w1b0 (c73 : PV → Int → (Int → Bool → R) → R) (c80 : PV → (Bool → R) → R) (c81 : PV → (Bool → R) → R) (ret0 : Int → Bool → R) (next_w1_0 : Int → Int → R) (p1 : PV) (n7 : Int) (n8 : Int) : R :=
  bif (decide (n8 < (List.length (PV.els (PV.fld p1 5)) : Int))) then
    bif (true && decide ((0 : Int) ≤ n8) && decide (n8 < (List.length (PV.els (PV.fld p1 5)) : Int))) then
      c73 (List.getD (PV.els (PV.fld p1 5)) (n8).toNat PV.nil) n7 fun n9 b10 =>
      bif (!b10) then
        ret0 0 false
      else next_w1_0 n9 (IntKind.wrap .i64 (n8 + (1 : Int)))
    else none
  else ret0 n7 true

theorem f73_w1b0_mem (k : Nat) (c73 : PV → Int → (Int → Bool → R) → R) (c80 : PV → (Bool → R) → R) (c81 : PV → (Bool → R) → R) (retF : Int × Bool → R) (NX_w1 : St → R) (p1 : PV) (n7 : Int) (n8 : Int) : exec (f73_E k c73 c80 c81) f73_cw1 (purgeK (f73_E k c73 c80 c81) f73_cw1 (loopK NX_w1 (kont (f73_E k c73 c80 c81) f73_code [1, 1, 1, 0, 1, 0] (endK (f73_E k c73 c80 c81) Try.f73 [] f73_un retF)))) (f73_hw1_0 p1 n7 n8) = f73_w1b0 c73 c80 c81 (fun y0 y1 => retF (y0, y1)) (fun n7 n8 => NX_w1 (f73_hw1_0 p1 n7 n8)) p1 n7 n8 := by kernel_rfl

noncomputable def f73_w1b0N (k : Nat) (c73 : PV → Int → (Int → Bool → R) → R) (c80 : PV → (Bool → R) → R) (c81 : PV → (Bool → R) → R) (ret0 : Int → Bool → R) (next_w1_0 : Int → Int → R) (p1 : PV) (n7 : Int) (n8 : Int) : R :=
  f73_w1b0 c73 c80 c81 ret0 next_w1_0 p1 n7 n8
theorem f73_w1b0_eq (k : Nat) (c73 : PV → Int → (Int → Bool → R) → R) (c80 : PV → (Bool → R) → R) (c81 : PV → (Bool → R) → R) (retF : Int × Bool → R) (NX_w1 : St → R) (p1 : PV) (n7 : Int) (n8 : Int) : exec (f73_E k c73 c80 c81) f73_cw1 (purgeK (f73_E k c73 c80 c81) f73_cw1 (loopK NX_w1 (kont (f73_E k c73 c80 c81) f73_code [1, 1, 1, 0, 1, 0] (endK (f73_E k c73 c80 c81) Try.f73 [] f73_un retF)))) (f73_hw1_0 p1 n7 n8) = f73_w1b0N k c73 c80 c81 (fun y0 y1 => retF (y0, y1)) (fun n7 n8 => NX_w1 (f73_hw1_0 p1 n7 n8)) p1 n7 n8 :=
  (f73_w1b0_mem k c73 c80 c81 retF NX_w1 p1 n7 n8)

noncomputable def f73_w1B (k : Nat) (c73 : PV → Int → (Int → Bool → R) → R) (c80 : PV → (Bool → R) → R) (c81 : PV → (Bool → R) → R) (ret0 : Int → Bool → R) (p1 : PV) (nx : Int × Int → R) : Int × Int → R := (fun s => f73_w1b0N k c73 c80 c81 ret0 (fun n7 n8 => nx (n7, n8)) p1 s.1 s.2)
noncomputable def f73_w1N (k : Nat) (c73 : PV → Int → (Int → Bool → R) → R) (c80 : PV → (Bool → R) → R) (c81 : PV → (Bool → R) → R) (ret0 : Int → Bool → R) (p1 : PV) (n7 : Int) (n8 : Int) : R := loopR (f73_w1B k c73 c80 c81 ret0 p1) k (n7, n8)
theorem f73_w1_eq (k : Nat) (c73 : PV → Int → (Int → Bool → R) → R) (c80 : PV → (Bool → R) → R) (c81 : PV → (Bool → R) → R) (retF : Int × Bool → R) (p1 : PV) (n7 : Int) (n8 : Int) : f73_w1A k c73 c80 c81 retF p1 n7 n8 = f73_w1N k c73 c80 c81 (fun y0 y1 => retF (y0, y1)) p1 n7 n8 :=
  Eq.mp (by kernel_rfl) (loop_sim (E := (f73_E k c73 c80 c81)) (c := f73_cw1) (K := (kont (f73_E k c73 c80 c81) f73_code [1, 1, 1, 0, 1, 0] (endK (f73_E k c73 c80 c81) Try.f73 [] f73_un retF))) (S := Int × Int) (fun s => f73_hw1_0 p1 s.1 s.2) (f73_w1B k c73 c80 c81 (fun y0 y1 => retF (y0, y1)) p1) (fun NX s => by
    exact Eq.mp (by kernel_rfl) (f73_w1b0_eq k c73 c80 c81 retF NX p1 s.1 s.2)) k (n7, n8))

noncomputable def f73_e (c73 : PV → Int → (Int → Bool → R) → R) (c80 : PV → (Bool → R) → R) (c81 : PV → (Bool → R) → R) (ret0 : Int → Bool → R) (w1 : Int → Int → R) (p1 : PV) (n2 : Int) : R :=
  c80 p1 fun b3 =>
  bif ((!b3) == false) then
    c81 p1 fun b4 =>
    bif (!b4) then
      ret0 0 false
    else bif (decide ((PV.num (PV.fld p1 0)) = (5 : Int))) then
      bif (!(decide ((PV.num (PV.fld p1 4)) = (IntKind.wrap .i64 (n2 + (1 : Int)))))) then
        ret0 0 false
      else w1 (IntKind.wrap .i64 (n2 + (1 : Int))) 0
    else w1 n2 0
  else ret0 0 false

theorem f73_e_mem (k : Nat) (c73 : PV → Int → (Int → Bool → R) → R) (c80 : PV → (Bool → R) → R) (c81 : PV → (Bool → R) → R) (retF : Int × Bool → R) (p1 : PV) (n2 : Int) : exec (f73_E k c73 c80 c81) f73_code (endK (f73_E k c73 c80 c81) Try.f73 [] f73_un retF) ⟨[.val 70 p1, .int .i64 n2, .undef, .undef, .undef, .undef, .undef, .undef, .undef, .undef, .undef, .undef, .undef, .undef, .undef, .undef, .undef, .undef, .undef, .undef, .undef, .undef, .undef, .undef, .undef, .undef, .undef, .undef, .undef, .undef, .undef, .undef, .undef, .undef, .undef, .undef, .undef, .undef, .undef, .undef, .undef, .undef, .undef], []⟩ = f73_e c73 c80 c81 (fun y0 y1 => retF (y0, y1)) (fun n7 n8 => f73_w1A k c73 c80 c81 retF p1 n7 n8) p1 n2 := by kernel_rfl

noncomputable def f73_N (k : Nat) (c73 : PV → Int → (Int → Bool → R) → R) (c80 : PV → (Bool → R) → R) (c81 : PV → (Bool → R) → R) (ret0 : Int → Bool → R) (p1 : PV) (n2 : Int) : R :=
  f73_e c73 c80 c81 ret0 (fun n7 n8 => f73_w1N k c73 c80 c81 ret0 p1 n7 n8) p1 n2
theorem f73_eq (k : Nat) (c73 : PV → Int → (Int → Bool → R) → R) (c80 : PV → (Bool → R) → R) (c81 : PV → (Bool → R) → R) (retF : Int × Bool → R) (p1 : PV) (n2 : Int) : exec (f73_E k c73 c80 c81) f73_code (endK (f73_E k c73 c80 c81) Try.f73 [] f73_un retF) ⟨[.val 70 p1, .int .i64 n2, .undef, .undef, .undef, .undef, .undef, .undef, .undef, .undef, .undef, .undef, .undef, .undef, .undef, .undef, .undef, .undef, .undef, .undef, .undef, .undef, .undef, .undef, .undef, .undef, .undef, .undef, .undef, .undef, .undef, .undef, .undef, .undef, .undef, .undef, .undef, .undef, .undef, .undef, .undef, .undef, .undef], []⟩ = f73_N k c73 c80 c81 (fun y0 y1 => retF (y0, y1)) p1 n2 :=
  (f73_e_mem k c73 c80 c81 retF p1 n2).trans (by rw [show (fun n7 n8 => f73_w1A k c73 c80 c81 retF p1 n7 n8) = (fun n7 n8 => f73_w1N k c73 c80 c81 (fun y0 y1 => retF (y0, y1)) p1 n7 n8) from funext fun n7 => funext fun n8 => f73_w1_eq k c73 c80 c81 retF p1 n7 n8]; rfl)

noncomputable def G73 : Nat → PV → Int → (Int → Bool → R) → R
  | 0, _, _, _ => none
  | k + 1, p1, n2, ret0 => f73_N k (G73 k) (G80 k) (G81 k) ret0 p1 n2
theorem S73 : ∀ k, Snd Try.prog 73 f73_I f73_O (fun x ret => G73 k x.1 x.2 (fun y0 y1 => ret (y0, y1)))
  | 0 => snd_none
  | k + 1 => snd_step (E := f73_E k (G73 k) (G80 k) (G81 k)) rfl laidOut noNums (orc_ok (S73 k).o f73_D_ok (orc_ok (S80 k).o f80_D_ok (orc_ok (S81 k).o f81_D_ok orc0_ok))) (f := 73) (fn := Try.f73) (code := f73_code) Try.func73 (by kernel_rfl) (drawsOk_of laidOut (orc_ok (S73 k).o f73_D_ok (orc_ok (S80 k).o f80_D_ok (orc_ok (S81 k).o f81_D_ok orc0_ok))) mixed (by kernel_rfl)) f73_un f73_un_ok [] (fun _ => rfl)
      (fun x ret => f73_eq k (G73 k) (G80 k) (G81 k) ret x.1 x.2)

/- catchpole/tree.Good -/
noncomputable def f48_I : PV → List SV × Obs := fun x => ([.val 74 x], [])
noncomputable def f48_D : List SV → Obs → Option (PV)
  | [.val 74 p1], [] => some p1
  | _, _ => none
theorem f48_D_ok (args : List SV) (B : Obs) (x : PV) (h : f48_D args B = some x) : f48_I x = (args, B) := by
  unfold f48_D at h
  split at h
  · injection h with h; subst h; rfl
  · cases h
noncomputable def f48_O : Bool → Out := (fun y => ([.bool y], []))
noncomputable def f48_un : Out → Option (Bool)
  | ([.bool y0], []) => some y0
  | _ => none
theorem f48_un_ok (o : Out) (y : Bool) (h : f48_un o = some y) : o = f48_O y := by
  unfold f48_un at h
  split at h
  · injection h with h; subst h; rfl
  · cases h
noncomputable def f48_msk : Nat → Option (List Nat) := fun key =>  none
noncomputable def f48_C (c50 : PV → (Int → R) → R) (c51 : PV → (Int → R) → R) (c73 : PV → Int → (Int → Bool → R) → R) : Oracle := orc 50 f50_D f50_O (fun x ret => c50 x (fun y0 => ret y0)) <| orc 51 f51_D f51_O (fun x ret => c51 x (fun y0 => ret y0)) <| orc 73 f73_D f73_O (fun x ret => c73 x.1 x.2 (fun y0 y1 => ret (y0, y1))) <| orc0
noncomputable def f48_E (k : Nat) (c50 : PV → (Int → R) → R) (c51 : PV → (Int → R) → R) (c73 : PV → Int → (Int → Bool → R) → R) : Env := { P := Try.prog, nilOwn := fun d => false, fldOwn := fun d i => false, ownPar := ownPars, ownRet := false, mask := f48_msk, fuel := k, C := f48_C c50 c51 c73 }
noncomputable def f48_code : Code := Try.f48.body.getD .skip
noncomputable def f48_e (c50 : PV → (Int → R) → R) (c51 : PV → (Int → R) → R) (c73 : PV → Int → (Int → Bool → R) → R) (ret0 : Bool → R) (p1 : PV) : R :=
  c50 (PV.fld p1 2) fun n2 =>
  bif ((decide ((64 : Int) < n2)) == false) then
    c51 (PV.fld p1 2) fun n3 =>
    bif (decide ((2000 : Int) < n3)) then
      ret0 false
    else c73 (PV.fld p1 2) 0 fun n4 b5 =>
    bif (b5 == true) then
      bif ((decide (n4 = (PV.num (PV.fld p1 3)))) == true) then
        ret0 (decide (n4 ≤ (32 : Int)))
      else ret0 false
    else ret0 false
  else ret0 false

theorem f48_e_mem (k : Nat) (c50 : PV → (Int → R) → R) (c51 : PV → (Int → R) → R) (c73 : PV → Int → (Int → Bool → R) → R) (retF : Bool → R) (p1 : PV) : exec (f48_E k c50 c51 c73) f48_code (endK (f48_E k c50 c51 c73) Try.f48 [] f48_un retF) ⟨[.val 74 p1, .undef, .undef, .undef, .undef, .undef, .undef, .undef, .undef, .undef, .undef, .undef, .undef, .undef, .undef, .undef, .undef, .undef, .undef, .undef, .undef, .undef, .undef, .undef, .undef, .undef, .undef, .undef, .undef, .undef, .undef, .undef], []⟩ = f48_e c50 c51 c73 (fun y0 => retF y0) p1 := by kernel_rfl

noncomputable def f48_N (k : Nat) (c50 : PV → (Int → R) → R) (c51 : PV → (Int → R) → R) (c73 : PV → Int → (Int → Bool → R) → R) (ret0 : Bool → R) (p1 : PV) : R :=
  f48_e c50 c51 c73 ret0 p1
theorem f48_eq (k : Nat) (c50 : PV → (Int → R) → R) (c51 : PV → (Int → R) → R) (c73 : PV → Int → (Int → Bool → R) → R) (retF : Bool → R) (p1 : PV) : exec (f48_E k c50 c51 c73) f48_code (endK (f48_E k c50 c51 c73) Try.f48 [] f48_un retF) ⟨[.val 74 p1, .undef, .undef, .undef, .undef, .undef, .undef, .undef, .undef, .undef, .undef, .undef, .undef, .undef, .undef, .undef, .undef, .undef, .undef, .undef, .undef, .undef, .undef, .undef, .undef, .undef, .undef, .undef, .undef, .undef, .undef, .undef], []⟩ = f48_N k c50 c51 c73 (fun y0 => retF y0) p1 :=
  (f48_e_mem k c50 c51 c73 retF p1)

noncomputable def G48 : Nat → PV → (Bool → R) → R
  | 0, _, _ => none
  | k + 1, p1, ret0 => f48_N k (G50 k) (G51 k) (G73 k) ret0 p1
theorem S48 : ∀ k, Snd Try.prog 48 f48_I f48_O (fun x ret => G48 k x (fun y0 => ret y0))
  | 0 => snd_none
  | k + 1 => snd_step (E := f48_E k (G50 k) (G51 k) (G73 k)) rfl laidOut noNums (orc_ok (S50 k).o f50_D_ok (orc_ok (S51 k).o f51_D_ok (orc_ok (S73 k).o f73_D_ok orc0_ok))) (f := 48) (fn := Try.f48) (code := f48_code) Try.func48 (by kernel_rfl) (drawsOk_of laidOut (orc_ok (S50 k).o f50_D_ok (orc_ok (S51 k).o f51_D_ok (orc_ok (S73 k).o f73_D_ok orc0_ok))) mixed (by kernel_rfl)) f48_un f48_un_ok [] (fun _ => rfl)
      (fun x ret => f48_eq k (G50 k) (G51 k) (G73 k) ret x)

/- catchpole/tree.Sets$1 -/
noncomputable def f76_I : PV × (List PV) × (List PV) → List SV × Obs := fun x => ([.val 70 x.1, .ptr 4000000 [], .ptr 6000000 [], .ptr 8000000 []], [(4000000, .box 108 (.mp 108 4000001)), (4000001, .map 108 x.2.1), (6000000, .box 78 (.own 78 6000001)), (6000001, .row 24 x.2.2), (8000000, .box 109 (.fn 76 [.ptr 4000000 [], .ptr 6000000 [], .ptr 8000000 []]))])
noncomputable def f76_D : List SV → Obs → Option (PV × (List PV) × (List PV))
  | [.val 70 p1, .ptr 4000000 [], .ptr 6000000 [], .ptr 8000000 []], [(4000000, .box 108 (.mp 108 4000001)), (4000001, .map 108 l2), (6000000, .box 78 (.own 78 6000001)), (6000001, .row 24 l3), (8000000, .box 109 (.fn 76 [.ptr 4000000 [], .ptr 6000000 [], .ptr 8000000 []]))] => some (p1, l2, l3)
  | _, _ => none
theorem f76_D_ok (args : List SV) (B : Obs) (x : PV × (List PV) × (List PV)) (h : f76_D args B = some x) : f76_I x = (args, B) := by
  unfold f76_D at h
  split at h
  · injection h with h; subst h; rfl
  · cases h
noncomputable def f76_O : (List PV) × (List PV) → Out := (fun y => ([], [(4000000, .box 108 (.mp 108 4000001)), (4000001, .map 108 y.1), (6000000, .box 78 (.own 78 6000001)), (6000001, .row 24 y.2), (8000000, .box 109 (.fn 76 [.ptr 4000000 [], .ptr 6000000 [], .ptr 8000000 []]))]))
noncomputable def f76_un : Out → Option ((List PV) × (List PV))
  | ([], [(4000000, .box 108 (.mp 108 4000001)), (4000001, .map 108 y0), (6000000, .box 78 (.own 78 6000001)), (6000001, .row 24 y1), (8000000, .box 109 (.fn 76 [.ptr 4000000 [], .ptr 6000000 [], .ptr 8000000 []]))]) => some (y0, y1)
  | _ => none
theorem f76_un_ok (o : Out) (y : (List PV) × (List PV)) (h : f76_un o = some y) : o = f76_O y := by
  unfold f76_un at h
  split at h
  · injection h with h; subst h; rfl
  · cases h
noncomputable def f76_msk : Nat → Option (List Nat) := fun key => bif key == 15 then some [3, 26, 27, 28] else none
noncomputable def f76_C (c76 : PV → (List PV) → (List PV) → ((List PV) → (List PV) → R) → R) : Oracle := orc 76 f76_D f76_O (fun x ret => c76 x.1 x.2.1 x.2.2 (fun y0 y1 => ret (y0, y1))) <| orc0
noncomputable def f76_E (k : Nat) (c76 : PV → (List PV) → (List PV) → ((List PV) → (List PV) → R) → R) : Env := { P := Try.prog, nilOwn := fun d => false, fldOwn := fun d i => false, ownPar := ownPars, ownRet := false, mask := f76_msk, fuel := k, C := f76_C c76 }
noncomputable def f76_code : Code := Try.f76.body.getD .skip
noncomputable def f76_cw1 : Code := subC f76_code [1, 1, 1, 0, 0]
noncomputable def f76_hw1_0 (p1 : PV) (n6 : Int) (l7 : List PV) (l8 : List PV) : St := ⟨[.dead, .dead, .dead, .ptr 8000000 [], .dead, .dead, .dead, .dead, .dead, .dead, .dead, .dead, .dead, .dead, .dead, .dead, .dead, .dead, .dead, .dead, .dead, .dead, .dead, .dead, .dead, .dead, .val 68 (PV.fld p1 5), .int .i64 (List.length (PV.els (PV.fld p1 5)) : Int), .int .i64 n6, .dead, .dead, .dead, .dead, .dead, .dead, .dead], [(4000000, .box 108 (.mp 108 4000001)), (4000001, .map 108 l7), (6000000, .box 78 (.own 78 6000001)), (6000001, .row 24 l8), (8000000, .box 109 (.fn 76 [.ptr 4000000 [], .ptr 6000000 [], .ptr 8000000 []]))]⟩
noncomputable def f76_w1A (k : Nat) (c76 : PV → (List PV) → (List PV) → ((List PV) → (List PV) → R) → R) (retF : (List PV) × (List PV) → R) (p1 : PV) (n6 : Int) (l7 : List PV) (l8 : List PV) : R := loopM (f76_E k c76) f76_cw1 (kont (f76_E k c76) f76_code [1, 1, 1, 0] (endK (f76_E k c76) Try.f76 [4000000, 4000001, 6000000, 6000001, 8000000] f76_un retF)) k (f76_hw1_0 p1 n6 l7 l8)
noncomputable def f76_w1b0 (c76 : PV → (List PV) → (List PV) → ((List PV) → (List PV) → R) → R) (ret0 : (List PV) → (List PV) → R) (next_w1_0 : Int → (List PV) → (List PV) → R) (p1 : PV) (n6 : Int) (l7 : List PV) (l8 : List PV) : R :=
  bif (decide (n6 < (List.length (PV.els (PV.fld p1 5)) : Int))) then
    bif (true && decide ((0 : Int) ≤ n6) && decide (n6 < (List.length (PV.els (PV.fld p1 5)) : Int))) then
      c76 (List.getD (PV.els (PV.fld p1 5)) (n6).toNat PV.nil) l7 l8 fun l9 l10 =>
      next_w1_0 (IntKind.wrap .i64 (n6 + (1 : Int))) l9 l10
    else none
  else ret0 l7 l8

theorem f76_w1b0_mem (k : Nat) (c76 : PV → (List PV) → (List PV) → ((List PV) → (List PV) → R) → R) (retF : (List PV) × (List PV) → R) (NX_w1 : St → R) (p1 : PV) (n6 : Int) (l7 : List PV) (l8 : List PV) : exec (f76_E k c76) f76_cw1 (purgeK (f76_E k c76) f76_cw1 (loopK NX_w1 (kont (f76_E k c76) f76_code [1, 1, 1, 0] (endK (f76_E k c76) Try.f76 [4000000, 4000001, 6000000, 6000001, 8000000] f76_un retF)))) (f76_hw1_0 p1 n6 l7 l8) = f76_w1b0 c76 (fun y0 y1 => retF (y0, y1)) (fun n6 l7 l8 => NX_w1 (f76_hw1_0 p1 n6 l7 l8)) p1 n6 l7 l8 := by kernel_rfl

noncomputable def f76_w1b0N (k : Nat) (c76 : PV → (List PV) → (List PV) → ((List PV) → (List PV) → R) → R) (ret0 : (List PV) → (List PV) → R) (next_w1_0 : Int → (List PV) → (List PV) → R) (p1 : PV) (n6 : Int) (l7 : List PV) (l8 : List PV) : R :=
  f76_w1b0 c76 ret0 next_w1_0 p1 n6 l7 l8
theorem f76_w1b0_eq (k : Nat) (c76 : PV → (List PV) → (List PV) → ((List PV) → (List PV) → R) → R) (retF : (List PV) × (List PV) → R) (NX_w1 : St → R) (p1 : PV) (n6 : Int) (l7 : List PV) (l8 : List PV) : exec (f76_E k c76) f76_cw1 (purgeK (f76_E k c76) f76_cw1 (loopK NX_w1 (kont (f76_E k c76) f76_code [1, 1, 1, 0] (endK (f76_E k c76) Try.f76 [4000000, 4000001, 6000000, 6000001, 8000000] f76_un retF)))) (f76_hw1_0 p1 n6 l7 l8) = f76_w1b0N k c76 (fun y0 y1 => retF (y0, y1)) (fun n6 l7 l8 => NX_w1 (f76_hw1_0 p1 n6 l7 l8)) p1 n6 l7 l8 :=
  (f76_w1b0_mem k c76 retF NX_w1 p1 n6 l7 l8)

noncomputable def f76_w1B (k : Nat) (c76 : PV → (List PV) → (List PV) → ((List PV) → (List PV) → R) → R) (ret0 : (List PV) → (List PV) → R) (p1 : PV) (nx : Int × (List PV) × (List PV) → R) : Int × (List PV) × (List PV) → R := (fun s => f76_w1b0N k c76 ret0 (fun n6 l7 l8 => nx (n6, l7, l8)) p1 s.1 s.2.1 s.2.2)
noncomputable def f76_w1N (k : Nat) (c76 : PV → (List PV) → (List PV) → ((List PV) → (List PV) → R) → R) (ret0 : (List PV) → (List PV) → R) (p1 : PV) (n6 : Int) (l7 : List PV) (l8 : List PV) : R := loopR (f76_w1B k c76 ret0 p1) k (n6, l7, l8)
theorem f76_w1_eq (k : Nat) (c76 : PV → (List PV) → (List PV) → ((List PV) → (List PV) → R) → R) (retF : (List PV) × (List PV) → R) (p1 : PV) (n6 : Int) (l7 : List PV) (l8 : List PV) : f76_w1A k c76 retF p1 n6 l7 l8 = f76_w1N k c76 (fun y0 y1 => retF (y0, y1)) p1 n6 l7 l8 :=
  Eq.mp (by kernel_rfl) (loop_sim (E := (f76_E k c76)) (c := f76_cw1) (K := (kont (f76_E k c76) f76_code [1, 1, 1, 0] (endK (f76_E k c76) Try.f76 [4000000, 4000001, 6000000, 6000001, 8000000] f76_un retF))) (S := Int × (List PV) × (List PV)) (fun s => f76_hw1_0 p1 s.1 s.2.1 s.2.2) (f76_w1B k c76 (fun y0 y1 => retF (y0, y1)) p1) (fun NX s => by
    exact Eq.mp (by kernel_rfl) (f76_w1b0_eq k c76 retF NX p1 s.1 s.2.1 s.2.2)) k (n6, l7, l8))

noncomputable def f76_e (c76 : PV → (List PV) → (List PV) → ((List PV) → (List PV) → R) → R) (ret0 : (List PV) → (List PV) → R) (w1 : Int → (List PV) → (List PV) → R) (p1 : PV) (l2 : List PV) (l3 : List PV) : R :=
  bif ((decide ((PV.num (PV.fld p1 0)) = (1 : Int))) == true) then
    bif (!(PV.tt (mlook (PV.fld p1 1) (PV.bool false) l2))) then
      bif (true && roomy (List.length l3 + List.length [(PV.fld p1 1)]) 32) then
        w1 0 (mput (PV.fld p1 1) (PV.bool true) l2) (l3 ++ [(PV.fld p1 1)])
      else none
    else w1 0 l2 l3
  else w1 0 l2 l3

theorem f76_e_mem (k : Nat) (c76 : PV → (List PV) → (List PV) → ((List PV) → (List PV) → R) → R) (retF : (List PV) × (List PV) → R) (p1 : PV) (l2 : List PV) (l3 : List PV) : exec (f76_E k c76) f76_code (endK (f76_E k c76) Try.f76 [4000000, 4000001, 6000000, 6000001, 8000000] f76_un retF) ⟨[.val 70 p1, .ptr 4000000 [], .ptr 6000000 [], .ptr 8000000 [], .undef, .undef, .undef, .undef, .undef, .undef, .undef, .undef, .undef, .undef, .undef, .undef, .undef, .undef, .undef, .undef, .undef, .undef, .undef, .undef, .undef, .undef, .undef, .undef, .undef, .undef, .undef, .undef, .undef, .undef, .undef, .undef], [(4000000, .box 108 (.mp 108 4000001)), (4000001, .map 108 l2), (6000000, .box 78 (.own 78 6000001)), (6000001, .row 24 l3), (8000000, .box 109 (.fn 76 [.ptr 4000000 [], .ptr 6000000 [], .ptr 8000000 []]))]⟩ = f76_e c76 (fun y0 y1 => retF (y0, y1)) (fun n6 l7 l8 => f76_w1A k c76 retF p1 n6 l7 l8) p1 l2 l3 := by kernel_rfl

noncomputable def f76_N (k : Nat) (c76 : PV → (List PV) → (List PV) → ((List PV) → (List PV) → R) → R) (ret0 : (List PV) → (List PV) → R) (p1 : PV) (l2 : List PV) (l3 : List PV) : R :=
  f76_e c76 ret0 (fun n6 l7 l8 => f76_w1N k c76 ret0 p1 n6 l7 l8) p1 l2 l3
theorem f76_eq (k : Nat) (c76 : PV → (List PV) → (List PV) → ((List PV) → (List PV) → R) → R) (retF : (List PV) × (List PV) → R) (p1 : PV) (l2 : List PV) (l3 : List PV) : exec (f76_E k c76) f76_code (endK (f76_E k c76) Try.f76 [4000000, 4000001, 6000000, 6000001, 8000000] f76_un retF) ⟨[.val 70 p1, .ptr 4000000 [], .ptr 6000000 [], .ptr 8000000 [], .undef, .undef, .undef, .undef, .undef, .undef, .undef, .undef, .undef, .undef, .undef, .undef, .undef, .undef, .undef, .undef, .undef, .undef, .undef, .undef, .undef, .undef, .undef, .undef, .undef, .undef, .undef, .undef, .undef, .undef, .undef, .undef], [(4000000, .box 108 (.mp 108 4000001)), (4000001, .map 108 l2), (6000000, .box 78 (.own 78 6000001)), (6000001, .row 24 l3), (8000000, .box 109 (.fn 76 [.ptr 4000000 [], .ptr 6000000 [], .ptr 8000000 []]))]⟩ = f76_N k c76 (fun y0 y1 => retF (y0, y1)) p1 l2 l3 :=
  (f76_e_mem k c76 retF p1 l2 l3).trans (by rw [show (fun n6 l7 l8 => f76_w1A k c76 retF p1 n6 l7 l8) = (fun n6 l7 l8 => f76_w1N k c76 (fun y0 y1 => retF (y0, y1)) p1 n6 l7 l8) from funext fun n6 => funext fun l7 => funext fun l8 => f76_w1_eq k c76 retF p1 n6 l7 l8]; rfl)

noncomputable def G76 : Nat → PV → (List PV) → (List PV) → ((List PV) → (List PV) → R) → R
  | 0, _, _, _, _ => none
  | k + 1, p1, l2, l3, ret0 => f76_N k (G76 k) ret0 p1 l2 l3
theorem S76 : ∀ k, Snd Try.prog 76 f76_I f76_O (fun x ret => G76 k x.1 x.2.1 x.2.2 (fun y0 y1 => ret (y0, y1)))
  | 0 => snd_none
  | k + 1 => snd_step (E := f76_E k (G76 k)) rfl laidOut noNums (orc_ok (S76 k).o f76_D_ok orc0_ok) (f := 76) (fn := Try.f76) (code := f76_code) Try.func76 (by kernel_rfl) (drawsOk_of laidOut (orc_ok (S76 k).o f76_D_ok orc0_ok) mixed (by kernel_rfl)) f76_un f76_un_ok [4000000, 4000001, 6000000, 6000001, 8000000] (fun _ => rfl)
      (fun x ret => f76_eq k (G76 k) ret x.1 x.2.1 x.2.2)

/- catchpole/tree.Sets -/
noncomputable def f53_I : PV → List SV × Obs := fun x => ([.val 70 x], [])
noncomputable def f53_D : List SV → Obs → Option (PV)
  | [.val 70 p1], [] => some p1
  | _, _ => none
theorem f53_D_ok (args : List SV) (B : Obs) (x : PV) (h : f53_D args B = some x) : f53_I x = (args, B) := by
  unfold f53_D at h
  split at h
  · injection h with h; subst h; rfl
  · cases h
noncomputable def f53_O : PV → Out := (fun y => ([.val 78 y], []))
noncomputable def f53_un : Out → Option (PV)
  | ([.val 78 y0], []) => some y0
  | _ => none
theorem f53_un_ok (o : Out) (y : PV) (h : f53_un o = some y) : o = f53_O y := by
  unfold f53_un at h
  split at h
  · injection h with h; subst h; rfl
  · cases h
noncomputable def f53_msk : Nat → Option (List Nat) := fun key =>  none
noncomputable def f53_C (c76 : PV → (List PV) → (List PV) → ((List PV) → (List PV) → R) → R) : Oracle := orc 76 f76_D f76_O (fun x ret => c76 x.1 x.2.1 x.2.2 (fun y0 y1 => ret (y0, y1))) <| orc0
noncomputable def f53_E (k : Nat) (c76 : PV → (List PV) → (List PV) → ((List PV) → (List PV) → R) → R) : Env := { P := Try.prog, nilOwn := fun d => false, fldOwn := fun d i => (d == 3 && i == 0), ownPar := ownPars, ownRet := false, mask := f53_msk, fuel := k, C := f53_C c76 }
noncomputable def f53_code : Code := Try.f53.body.getD .skip
noncomputable def f53_e (c76 : PV → (List PV) → (List PV) → ((List PV) → (List PV) → R) → R) (ret0 : PV → R) (p1 : PV) : R :=
  c76 p1 [] [] fun l2 l3 =>
  ret0 (PV.list l3)

theorem f53_e_mem (k : Nat) (c76 : PV → (List PV) → (List PV) → ((List PV) → (List PV) → R) → R) (retF : PV → R) (p1 : PV) : exec (f53_E k c76) f53_code (endK (f53_E k c76) Try.f53 [] f53_un retF) ⟨[.val 70 p1, .undef, .undef, .undef, .undef, .undef, .undef, .undef, .undef, .undef, .undef, .undef], []⟩ = f53_e c76 (fun y0 => retF y0) p1 := by kernel_rfl

noncomputable def f53_N (k : Nat) (c76 : PV → (List PV) → (List PV) → ((List PV) → (List PV) → R) → R) (ret0 : PV → R) (p1 : PV) : R :=
  f53_e c76 ret0 p1
theorem f53_eq (k : Nat) (c76 : PV → (List PV) → (List PV) → ((List PV) → (List PV) → R) → R) (retF : PV → R) (p1 : PV) : exec (f53_E k c76) f53_code (endK (f53_E k c76) Try.f53 [] f53_un retF) ⟨[.val 70 p1, .undef, .undef, .undef, .undef, .undef, .undef, .undef, .undef, .undef, .undef, .undef], []⟩ = f53_N k c76 (fun y0 => retF y0) p1 :=
  (f53_e_mem k c76 retF p1)

noncomputable def G53 : Nat → PV → (PV → R) → R
  | 0, _, _ => none
  | k + 1, p1, ret0 => f53_N k (G76 k) ret0 p1
theorem S53 : ∀ k, Snd Try.prog 53 f53_I f53_O (fun x ret => G53 k x (fun y0 => ret y0))
  | 0 => snd_none
  | k + 1 => snd_step (E := f53_E k (G76 k)) rfl laidOut noNums (orc_ok (S76 k).o f76_D_ok orc0_ok) (f := 53) (fn := Try.f53) (code := f53_code) Try.func53 (by kernel_rfl) (drawsOk_of laidOut (orc_ok (S76 k).o f76_D_ok orc0_ok) mixed (by kernel_rfl)) f53_un f53_un_ok [] (fun _ => rfl)
      (fun x ret => f53_eq k (G76 k) ret x)

/- catchpole/catchpolelaw5.awake -/
noncomputable def f46_I : Unit → List SV × Obs := fun x => ([], [])
noncomputable def f46_D : List SV → Obs → Option (Unit)
  | [], [] => some ()
  | _, _ => none
theorem f46_D_ok (args : List SV) (B : Obs) (x : Unit) (h : f46_D args B = some x) : f46_I x = (args, B) := by
  unfold f46_D at h
  split at h
  · injection h with h; subst h; rfl
  · cases h
noncomputable def f46_O : Bool → Out := (fun y => ([.bool y], []))
noncomputable def f46_un : Out → Option (Bool)
  | ([.bool y0], []) => some y0
  | _ => none
theorem f46_un_ok (o : Out) (y : Bool) (h : f46_un o = some y) : o = f46_O y := by
  unfold f46_un at h
  split at h
  · injection h with h; subst h; rfl
  · cases h
noncomputable def f46_msk : Nat → Option (List Nat) := fun key =>  none
noncomputable def f46_C (c47 : Int → (PV → R) → R) (c48 : PV → (Bool → R) → R) (c50 : PV → (Int → R) → R) (c51 : PV → (Int → R) → R) (c53 : PV → (PV → R) → R) : Oracle := orc 47 f47_D f47_O (fun x ret => c47 x (fun y0 => ret y0)) <| orc 48 f48_D f48_O (fun x ret => c48 x (fun y0 => ret y0)) <| orc 50 f50_D f50_O (fun x ret => c50 x (fun y0 => ret y0)) <| orc 51 f51_D f51_O (fun x ret => c51 x (fun y0 => ret y0)) <| orc 53 f53_D f53_O (fun x ret => c53 x (fun y0 => ret y0)) <| orc0
noncomputable def f46_E (k : Nat) (c47 : Int → (PV → R) → R) (c48 : PV → (Bool → R) → R) (c50 : PV → (Int → R) → R) (c51 : PV → (Int → R) → R) (c53 : PV → (PV → R) → R) : Env := { P := Try.prog, nilOwn := fun d => false, fldOwn := fun d i => false, ownPar := ownPars, ownRet := false, mask := f46_msk, fuel := k, C := f46_C c47 c48 c50 c51 c53 }
noncomputable def f46_code : Code := Try.f46.body.getD .skip
noncomputable def f46_e (c47 : Int → (PV → R) → R) (c48 : PV → (Bool → R) → R) (c50 : PV → (Int → R) → R) (c51 : PV → (Int → R) → R) (c53 : PV → (PV → R) → R) (ret0 : Bool → R) : R :=
  c47 97 fun p1 =>
  c47 98 fun p2 =>
  c51 (PV.agg [(PV.int 2), (PV.agg [(PV.int 0), (PV.int 0), (PV.int 0), (PV.int 0)]), (PV.int 0), (PV.int 0), (PV.int 0), (PV.list [p1, p2])]) fun n3 =>
  bif ((decide (n3 = (3 : Int))) == true) then
    c50 (PV.agg [(PV.int 2), (PV.agg [(PV.int 0), (PV.int 0), (PV.int 0), (PV.int 0)]), (PV.int 0), (PV.int 0), (PV.int 0), (PV.list [p1, p2])]) fun n4 =>
    bif ((decide (n4 = (2 : Int))) == true) then
      c48 (PV.agg [(PV.bool false), (PV.bool false), (PV.agg [(PV.int 2), (PV.agg [(PV.int 0), (PV.int 0), (PV.int 0), (PV.int 0)]), (PV.int 0), (PV.int 0), (PV.int 0), (PV.list [p1, p2])]), (PV.int 0)]) fun b5 =>
      bif (b5 == true) then
        c53 (PV.agg [(PV.int 2), (PV.agg [(PV.int 0), (PV.int 0), (PV.int 0), (PV.int 0)]), (PV.int 0), (PV.int 0), (PV.int 0), (PV.list [p1, p2])]) fun p6 =>
        ret0 (decide ((List.length (PV.els p6) : Int) = (2 : Int)))
      else ret0 false
    else ret0 false
  else ret0 false

theorem f46_e_mem (k : Nat) (c47 : Int → (PV → R) → R) (c48 : PV → (Bool → R) → R) (c50 : PV → (Int → R) → R) (c51 : PV → (Int → R) → R) (c53 : PV → (PV → R) → R) (retF : Bool → R) : exec (f46_E k c47 c48 c50 c51 c53) f46_code (endK (f46_E k c47 c48 c50 c51 c53) Try.f46 [] f46_un retF) ⟨[.undef, .undef, .undef, .undef, .undef, .undef, .undef, .undef, .undef, .undef, .undef, .undef, .undef, .undef, .undef, .undef, .undef, .undef, .undef, .undef, .undef, .undef, .undef, .undef, .undef], []⟩ = f46_e c47 c48 c50 c51 c53 (fun y0 => retF y0) := by kernel_rfl

noncomputable def f46_N (k : Nat) (c47 : Int → (PV → R) → R) (c48 : PV → (Bool → R) → R) (c50 : PV → (Int → R) → R) (c51 : PV → (Int → R) → R) (c53 : PV → (PV → R) → R) (ret0 : Bool → R) : R :=
  f46_e c47 c48 c50 c51 c53 ret0
theorem f46_eq (k : Nat) (c47 : Int → (PV → R) → R) (c48 : PV → (Bool → R) → R) (c50 : PV → (Int → R) → R) (c51 : PV → (Int → R) → R) (c53 : PV → (PV → R) → R) (retF : Bool → R) : exec (f46_E k c47 c48 c50 c51 c53) f46_code (endK (f46_E k c47 c48 c50 c51 c53) Try.f46 [] f46_un retF) ⟨[.undef, .undef, .undef, .undef, .undef, .undef, .undef, .undef, .undef, .undef, .undef, .undef, .undef, .undef, .undef, .undef, .undef, .undef, .undef, .undef, .undef, .undef, .undef, .undef, .undef], []⟩ = f46_N k c47 c48 c50 c51 c53 (fun y0 => retF y0) :=
  (f46_e_mem k c47 c48 c50 c51 c53 retF)

noncomputable def G46 : Nat → (Bool → R) → R
  | 0, _ => none
  | k + 1, ret0 => f46_N k (G47 k) (G48 k) (G50 k) (G51 k) (G53 k) ret0 
theorem S46 : ∀ k, Snd Try.prog 46 f46_I f46_O (fun x ret => G46 k (fun y0 => ret y0))
  | 0 => snd_none
  | k + 1 => snd_step (E := f46_E k (G47 k) (G48 k) (G50 k) (G51 k) (G53 k)) rfl laidOut noNums (orc_ok (S47 k).o f47_D_ok (orc_ok (S48 k).o f48_D_ok (orc_ok (S50 k).o f50_D_ok (orc_ok (S51 k).o f51_D_ok (orc_ok (S53 k).o f53_D_ok orc0_ok))))) (f := 46) (fn := Try.f46) (code := f46_code) Try.func46 (by kernel_rfl) (drawsOk_of laidOut (orc_ok (S47 k).o f47_D_ok (orc_ok (S48 k).o f48_D_ok (orc_ok (S50 k).o f50_D_ok (orc_ok (S51 k).o f51_D_ok (orc_ok (S53 k).o f53_D_ok orc0_ok))))) mixed (by kernel_rfl)) f46_un f46_un_ok [] (fun _ => rfl)
      (fun x ret => f46_eq k (G47 k) (G48 k) (G50 k) (G51 k) (G53 k) ret)

/- catchpole/catchpolelaw5.group -/
noncomputable def f49_I : Int × PV → List SV × Obs := fun x => ([.int .i64 x.1, .val 70 x.2], [])
noncomputable def f49_D : List SV → Obs → Option (Int × PV)
  | [.int .i64 n1, .val 70 p2], [] => some (n1, p2)
  | _, _ => none
theorem f49_D_ok (args : List SV) (B : Obs) (x : Int × PV) (h : f49_D args B = some x) : f49_I x = (args, B) := by
  unfold f49_D at h
  split at h
  · injection h with h; subst h; rfl
  · cases h
noncomputable def f49_O : PV → Out := (fun y => ([.val 70 y], []))
noncomputable def f49_un : Out → Option (PV)
  | ([.val 70 y0], []) => some y0
  | _ => none
theorem f49_un_ok (o : Out) (y : PV) (h : f49_un o = some y) : o = f49_O y := by
  unfold f49_un at h
  split at h
  · injection h with h; subst h; rfl
  · cases h
noncomputable def f49_msk : Nat → Option (List Nat) := fun key =>  none
noncomputable def f49_C : Oracle := orc0
noncomputable def f49_E (k : Nat) : Env := { P := Try.prog, nilOwn := fun d => false, fldOwn := fun d i => false, ownPar := ownPars, ownRet := false, mask := f49_msk, fuel := k, C := f49_C }
noncomputable def f49_code : Code := Try.f49.body.getD .skip
noncomputable def f49_e (ret0 : PV → R) (n1 : Int) (p2 : PV) : R :=
  ret0 (PV.agg [(PV.int 5), (PV.agg [(PV.int 0), (PV.int 0), (PV.int 0), (PV.int 0)]), (PV.int 0), (PV.int 0), (PV.int n1), (PV.list [p2])])

theorem f49_e_mem (k : Nat) (retF : PV → R) (n1 : Int) (p2 : PV) : exec (f49_E k) f49_code (endK (f49_E k) Try.f49 [] f49_un retF) ⟨[.int .i64 n1, .val 70 p2, .undef, .undef, .undef, .undef, .undef, .undef, .undef], []⟩ = f49_e (fun y0 => retF y0) n1 p2 := by kernel_rfl

noncomputable def f49_N (k : Nat) (ret0 : PV → R) (n1 : Int) (p2 : PV) : R :=
  f49_e ret0 n1 p2
theorem f49_eq (k : Nat) (retF : PV → R) (n1 : Int) (p2 : PV) : exec (f49_E k) f49_code (endK (f49_E k) Try.f49 [] f49_un retF) ⟨[.int .i64 n1, .val 70 p2, .undef, .undef, .undef, .undef, .undef, .undef, .undef], []⟩ = f49_N k (fun y0 => retF y0) n1 p2 :=
  (f49_e_mem k retF n1 p2)

noncomputable def G49 : Nat → Int → PV → (PV → R) → R
  | 0, _, _, _ => none
  | k + 1, n1, p2, ret0 => f49_N k  ret0 n1 p2
theorem S49 : ∀ k, Snd Try.prog 49 f49_I f49_O (fun x ret => G49 k x.1 x.2 (fun y0 => ret y0))
  | 0 => snd_none
  | k + 1 => snd_step (E := f49_E k ) rfl laidOut noNums orc0_ok (f := 49) (fn := Try.f49) (code := f49_code) Try.func49 (by kernel_rfl) (drawsOk_of laidOut orc0_ok mixed (by kernel_rfl)) f49_un f49_un_ok [] (fun _ => rfl)
      (fun x ret => f49_eq k  ret x.1 x.2)

/- slices.EqualFunc[[]catchpole/tree.Node,[]catchpole/tree.Node,catchpole/tree.Node,catchpole/tree.Node] -/
noncomputable def f75_I : PV × PV → List SV × Obs := fun x => ([.val 68 x.1, .val 68 x.2, .fn 52 []], [])
noncomputable def f75_D : List SV → Obs → Option (PV × PV)
  | [.val 68 p1, .val 68 p2, .fn 52 []], [] => some (p1, p2)
  | _, _ => none
theorem f75_D_ok (args : List SV) (B : Obs) (x : PV × PV) (h : f75_D args B = some x) : f75_I x = (args, B) := by
  unfold f75_D at h
  split at h
  · injection h with h; subst h; rfl
  · cases h
noncomputable def f75_O : Bool → Out := (fun y => ([.bool y], []))
noncomputable def f75_un : Out → Option (Bool)
  | ([.bool y0], []) => some y0
  | _ => none
theorem f75_un_ok (o : Out) (y : Bool) (h : f75_un o = some y) : o = f75_O y := by
  unfold f75_un at h
  split at h
  · injection h with h; subst h; rfl
  · cases h
/- catchpole/tree.Same -/
noncomputable def f52_I : PV × PV → List SV × Obs := fun x => ([.val 70 x.1, .val 70 x.2], [])
noncomputable def f52_D : List SV → Obs → Option (PV × PV)
  | [.val 70 p1, .val 70 p2], [] => some (p1, p2)
  | _, _ => none
theorem f52_D_ok (args : List SV) (B : Obs) (x : PV × PV) (h : f52_D args B = some x) : f52_I x = (args, B) := by
  unfold f52_D at h
  split at h
  · injection h with h; subst h; rfl
  · cases h
noncomputable def f52_O : Bool → Out := (fun y => ([.bool y], []))
noncomputable def f52_un : Out → Option (Bool)
  | ([.bool y0], []) => some y0
  | _ => none
theorem f52_un_ok (o : Out) (y : Bool) (h : f52_un o = some y) : o = f52_O y := by
  unfold f52_un at h
  split at h
  · injection h with h; subst h; rfl
  · cases h
noncomputable def f75_msk : Nat → Option (List Nat) := fun key => bif key == 12 then some [1, 2, 15, 16, 17] else none
noncomputable def f75_C (c52 : PV → PV → (Bool → R) → R) : Oracle := orc 52 f52_D f52_O (fun x ret => c52 x.1 x.2 (fun y0 => ret y0)) <| orc0
noncomputable def f75_E (k : Nat) (c52 : PV → PV → (Bool → R) → R) : Env := { P := Try.prog, nilOwn := fun d => false, fldOwn := fun d i => false, ownPar := ownPars, ownRet := false, mask := f75_msk, fuel := k, C := f75_C c52 }
noncomputable def f75_code : Code := Try.f75.body.getD .skip
noncomputable def f75_cw1 : Code := subC f75_code [1, 1, 0, 1, 0, 0]
noncomputable def f75_hw1_0 (p1 : PV) (p2 : PV) (n4 : Int) : St := ⟨[.dead, .val 68 p2, .fn 52 [], .dead, .dead, .dead, .dead, .dead, .dead, .dead, .dead, .dead, .dead, .dead, .dead, .val 68 p1, .int .i64 (List.length (PV.els p1) : Int), .int .i64 n4, .dead, .dead, .dead, .dead, .dead, .dead, .dead, .dead, .dead, .dead, .dead, .dead, .dead, .dead], []⟩
noncomputable def f75_w1A (k : Nat) (c52 : PV → PV → (Bool → R) → R) (retF : Bool → R) (p1 : PV) (p2 : PV) (n4 : Int) : R := loopM (f75_E k c52) f75_cw1 (kont (f75_E k c52) f75_code [1, 1, 0, 1, 0] (endK (f75_E k c52) Try.f75 [] f75_un retF)) k (f75_hw1_0 p1 p2 n4)
noncomputable def f75_w1b0 (c52 : PV → PV → (Bool → R) → R) (ret0 : Bool → R) (next_w1_0 : Int → R) (p1 : PV) (p2 : PV) (n4 : Int) : R :=
  bif (decide (n4 < (List.length (PV.els p1) : Int))) then
    bif (true && decide ((0 : Int) ≤ n4) && decide (n4 < (List.length (PV.els p1) : Int))) then
      bif (true && decide ((0 : Int) ≤ n4) && decide (n4 < (List.length (PV.els p2) : Int))) then
        c52 (List.getD (PV.els p1) (n4).toNat PV.nil) (List.getD (PV.els p2) (n4).toNat PV.nil) fun b5 =>
        bif (!b5) then
          ret0 false
        else next_w1_0 (IntKind.wrap .i64 (n4 + (1 : Int)))
      else none
    else none
  else ret0 true

theorem f75_w1b0_mem (k : Nat) (c52 : PV → PV → (Bool → R) → R) (retF : Bool → R) (NX_w1 : St → R) (p1 : PV) (p2 : PV) (n4 : Int) : exec (f75_E k c52) f75_cw1 (purgeK (f75_E k c52) f75_cw1 (loopK NX_w1 (kont (f75_E k c52) f75_code [1, 1, 0, 1, 0] (endK (f75_E k c52) Try.f75 [] f75_un retF)))) (f75_hw1_0 p1 p2 n4) = f75_w1b0 c52 (fun y0 => retF y0) (fun n4 => NX_w1 (f75_hw1_0 p1 p2 n4)) p1 p2 n4 := by kernel_rfl

noncomputable def f75_w1b0N (k : Nat) (c52 : PV → PV → (Bool → R) → R) (ret0 : Bool → R) (next_w1_0 : Int → R) (p1 : PV) (p2 : PV) (n4 : Int) : R :=
  f75_w1b0 c52 ret0 next_w1_0 p1 p2 n4
theorem f75_w1b0_eq (k : Nat) (c52 : PV → PV → (Bool → R) → R) (retF : Bool → R) (NX_w1 : St → R) (p1 : PV) (p2 : PV) (n4 : Int) : exec (f75_E k c52) f75_cw1 (purgeK (f75_E k c52) f75_cw1 (loopK NX_w1 (kont (f75_E k c52) f75_code [1, 1, 0, 1, 0] (endK (f75_E k c52) Try.f75 [] f75_un retF)))) (f75_hw1_0 p1 p2 n4) = f75_w1b0N k c52 (fun y0 => retF y0) (fun n4 => NX_w1 (f75_hw1_0 p1 p2 n4)) p1 p2 n4 :=
  (f75_w1b0_mem k c52 retF NX_w1 p1 p2 n4)

noncomputable def f75_w1B (k : Nat) (c52 : PV → PV → (Bool → R) → R) (ret0 : Bool → R) (p1 : PV) (p2 : PV) (nx : Int → R) : Int → R := (fun s => f75_w1b0N k c52 ret0 (fun n4 => nx n4) p1 p2 s)
noncomputable def f75_w1N (k : Nat) (c52 : PV → PV → (Bool → R) → R) (ret0 : Bool → R) (p1 : PV) (p2 : PV) (n4 : Int) : R := loopR (f75_w1B k c52 ret0 p1 p2) k n4
theorem f75_w1_eq (k : Nat) (c52 : PV → PV → (Bool → R) → R) (retF : Bool → R) (p1 : PV) (p2 : PV) (n4 : Int) : f75_w1A k c52 retF p1 p2 n4 = f75_w1N k c52 (fun y0 => retF y0) p1 p2 n4 :=
  Eq.mp (by kernel_rfl) (loop_sim (E := (f75_E k c52)) (c := f75_cw1) (K := (kont (f75_E k c52) f75_code [1, 1, 0, 1, 0] (endK (f75_E k c52) Try.f75 [] f75_un retF))) (S := Int) (fun s => f75_hw1_0 p1 p2 s) (f75_w1B k c52 (fun y0 => retF y0) p1 p2) (fun NX s => by
    exact Eq.mp (by kernel_rfl) (f75_w1b0_eq k c52 retF NX p1 p2 s)) k n4)

noncomputable def f75_e (c52 : PV → PV → (Bool → R) → R) (ret0 : Bool → R) (w1 : Int → R) (p1 : PV) (p2 : PV) : R :=
  bif (!(decide ((List.length (PV.els p1) : Int) = (List.length (PV.els p2) : Int)))) then
    ret0 false
  else w1 0

theorem f75_e_mem (k : Nat) (c52 : PV → PV → (Bool → R) → R) (retF : Bool → R) (p1 : PV) (p2 : PV) : exec (f75_E k c52) f75_code (endK (f75_E k c52) Try.f75 [] f75_un retF) ⟨[.val 68 p1, .val 68 p2, .fn 52 [], .undef, .undef, .undef, .undef, .undef, .undef, .undef, .undef, .undef, .undef, .undef, .undef, .undef, .undef, .undef, .undef, .undef, .undef, .undef, .undef, .undef, .undef, .undef, .undef, .undef, .undef, .undef, .undef, .undef], []⟩ = f75_e c52 (fun y0 => retF y0) (fun n4 => f75_w1A k c52 retF p1 p2 n4) p1 p2 := by kernel_rfl

noncomputable def f75_N (k : Nat) (c52 : PV → PV → (Bool → R) → R) (ret0 : Bool → R) (p1 : PV) (p2 : PV) : R :=
  f75_e c52 ret0 (fun n4 => f75_w1N k c52 ret0 p1 p2 n4) p1 p2
theorem f75_eq (k : Nat) (c52 : PV → PV → (Bool → R) → R) (retF : Bool → R) (p1 : PV) (p2 : PV) : exec (f75_E k c52) f75_code (endK (f75_E k c52) Try.f75 [] f75_un retF) ⟨[.val 68 p1, .val 68 p2, .fn 52 [], .undef, .undef, .undef, .undef, .undef, .undef, .undef, .undef, .undef, .undef, .undef, .undef, .undef, .undef, .undef, .undef, .undef, .undef, .undef, .undef, .undef, .undef, .undef, .undef, .undef, .undef, .undef, .undef, .undef], []⟩ = f75_N k c52 (fun y0 => retF y0) p1 p2 :=
  (f75_e_mem k c52 retF p1 p2).trans (by rw [show (fun n4 => f75_w1A k c52 retF p1 p2 n4) = (fun n4 => f75_w1N k c52 (fun y0 => retF y0) p1 p2 n4) from funext fun n4 => f75_w1_eq k c52 retF p1 p2 n4]; rfl)

noncomputable def f52_msk : Nat → Option (List Nat) := fun key =>  none
noncomputable def f52_C (c75 : PV → PV → (Bool → R) → R) : Oracle := orc 75 f75_D f75_O (fun x ret => c75 x.1 x.2 (fun y0 => ret y0)) <| orc0
noncomputable def f52_E (k : Nat) (c75 : PV → PV → (Bool → R) → R) : Env := { P := Try.prog, nilOwn := fun d => false, fldOwn := fun d i => false, ownPar := ownPars, ownRet := false, mask := f52_msk, fuel := k, C := f52_C c75 }
noncomputable def f52_code : Code := Try.f52.body.getD .skip
noncomputable def f52_e (c75 : PV → PV → (Bool → R) → R) (ret0 : Bool → R) (p1 : PV) (p2 : PV) : R :=
  bif ((decide ((PV.num (PV.fld p1 0)) = (PV.num (PV.fld p2 0)))) == true) then
    bif ((PV.beq (PV.fld p1 1) (PV.fld p2 1)) == true) then
      bif ((decide ((PV.num (PV.fld p1 2)) = (PV.num (PV.fld p2 2)))) == true) then
        bif ((decide ((PV.num (PV.fld p1 3)) = (PV.num (PV.fld p2 3)))) == true) then
          bif ((decide ((PV.num (PV.fld p1 4)) = (PV.num (PV.fld p2 4)))) == true) then
            c75 (PV.fld p1 5) (PV.fld p2 5) fun b3 =>
            ret0 b3
          else ret0 false
        else ret0 false
      else ret0 false
    else ret0 false
  else ret0 false

theorem f52_e_mem (k : Nat) (c75 : PV → PV → (Bool → R) → R) (retF : Bool → R) (p1 : PV) (p2 : PV) : exec (f52_E k c75) f52_code (endK (f52_E k c75) Try.f52 [] f52_un retF) ⟨[.val 70 p1, .val 70 p2, .undef, .undef, .undef, .undef, .undef, .undef, .undef, .undef, .undef, .undef, .undef, .undef, .undef, .undef, .undef, .undef, .undef, .undef, .undef, .undef, .undef, .undef, .undef, .undef, .undef, .undef, .undef, .undef, .undef, .undef, .undef, .undef, .undef, .undef, .undef, .undef, .undef, .undef, .undef, .undef, .undef, .undef, .undef], []⟩ = f52_e c75 (fun y0 => retF y0) p1 p2 := by kernel_rfl

noncomputable def f52_N (k : Nat) (c75 : PV → PV → (Bool → R) → R) (ret0 : Bool → R) (p1 : PV) (p2 : PV) : R :=
  f52_e c75 ret0 p1 p2
theorem f52_eq (k : Nat) (c75 : PV → PV → (Bool → R) → R) (retF : Bool → R) (p1 : PV) (p2 : PV) : exec (f52_E k c75) f52_code (endK (f52_E k c75) Try.f52 [] f52_un retF) ⟨[.val 70 p1, .val 70 p2, .undef, .undef, .undef, .undef, .undef, .undef, .undef, .undef, .undef, .undef, .undef, .undef, .undef, .undef, .undef, .undef, .undef, .undef, .undef, .undef, .undef, .undef, .undef, .undef, .undef, .undef, .undef, .undef, .undef, .undef, .undef, .undef, .undef, .undef, .undef, .undef, .undef, .undef, .undef, .undef, .undef, .undef, .undef], []⟩ = f52_N k c75 (fun y0 => retF y0) p1 p2 :=
  (f52_e_mem k c75 retF p1 p2)

mutual
noncomputable def G75 : Nat → PV → PV → (Bool → R) → R
  | 0, _, _, _ => none
  | k + 1, p1, p2, ret0 => f75_N k (G52 k) ret0 p1 p2
noncomputable def G52 : Nat → PV → PV → (Bool → R) → R
  | 0, _, _, _ => none
  | k + 1, p1, p2, ret0 => f52_N k (G75 k) ret0 p1 p2
end
mutual
theorem S75 : ∀ k, Snd Try.prog 75 f75_I f75_O (fun x ret => G75 k x.1 x.2 (fun y0 => ret y0))
  | 0 => snd_none
  | k + 1 => snd_step (E := f75_E k (G52 k)) rfl laidOut noNums (orc_ok (S52 k).o f52_D_ok orc0_ok) (f := 75) (fn := Try.f75) (code := f75_code) Try.func75 (by kernel_rfl) (drawsOk_of laidOut (orc_ok (S52 k).o f52_D_ok orc0_ok) mixed (by kernel_rfl)) f75_un f75_un_ok [] (fun _ => rfl)
      (fun x ret => f75_eq k (G52 k) ret x.1 x.2)
theorem S52 : ∀ k, Snd Try.prog 52 f52_I f52_O (fun x ret => G52 k x.1 x.2 (fun y0 => ret y0))
  | 0 => snd_none
  | k + 1 => snd_step (E := f52_E k (G75 k)) rfl laidOut noNums (orc_ok (S75 k).o f75_D_ok orc0_ok) (f := 52) (fn := Try.f52) (code := f52_code) Try.func52 (by kernel_rfl) (drawsOk_of laidOut (orc_ok (S75 k).o f75_D_ok orc0_ok) mixed (by kernel_rfl)) f52_un f52_un_ok [] (fun _ => rfl)
      (fun x ret => f52_eq k (G75 k) ret x.1 x.2)
end

/- catchpole/catchpolelaw5.TreeKnown -/
noncomputable def f11_I : Unit → List SV × Obs := fun x => ([], [])
noncomputable def f11_D : List SV → Obs → Option (Unit)
  | [], [] => some ()
  | _, _ => none
theorem f11_D_ok (args : List SV) (B : Obs) (x : Unit) (h : f11_D args B = some x) : f11_I x = (args, B) := by
  unfold f11_D at h
  split at h
  · injection h with h; subst h; rfl
  · cases h
noncomputable def f11_O : Bool → Out := (fun y => ([.bool y], []))
noncomputable def f11_un : Out → Option (Bool)
  | ([.bool y0], []) => some y0
  | _ => none
theorem f11_un_ok (o : Out) (y : Bool) (h : f11_un o = some y) : o = f11_O y := by
  unfold f11_un at h
  split at h
  · injection h with h; subst h; rfl
  · cases h
noncomputable def f11_msk : Nat → Option (List Nat) := fun key => bif key == 27 then some [1, 3, 4, 5, 6] else bif key == 51 then some [1, 3, 4, 7, 8, 9, 10] else bif key == 69 then some [1, 3, 4, 7, 8, 9, 11, 12, 13] else none
noncomputable def f11_C (c18 : PV → (PV → R) → R) (c46 : (Bool → R) → R) (c47 : Int → (PV → R) → R) (c48 : PV → (Bool → R) → R) (c49 : Int → PV → (PV → R) → R) (c50 : PV → (Int → R) → R) (c51 : PV → (Int → R) → R) (c52 : PV → PV → (Bool → R) → R) (c53 : PV → (PV → R) → R) : Oracle := orc 18 f18_D f18_O (fun x ret => c18 x (fun y0 => ret y0)) <| orc 46 f46_D f46_O (fun x ret => c46 (fun y0 => ret y0)) <| orc 47 f47_D f47_O (fun x ret => c47 x (fun y0 => ret y0)) <| orc 48 f48_D f48_O (fun x ret => c48 x (fun y0 => ret y0)) <| orc 49 f49_D f49_O (fun x ret => c49 x.1 x.2 (fun y0 => ret y0)) <| orc 50 f50_D f50_O (fun x ret => c50 x (fun y0 => ret y0)) <| orc 51 f51_D f51_O (fun x ret => c51 x (fun y0 => ret y0)) <| orc 52 f52_D f52_O (fun x ret => c52 x.1 x.2 (fun y0 => ret y0)) <| orc 53 f53_D f53_O (fun x ret => c53 x (fun y0 => ret y0)) <| orc0
noncomputable def f11_E (k : Nat) (c18 : PV → (PV → R) → R) (c46 : (Bool → R) → R) (c47 : Int → (PV → R) → R) (c48 : PV → (Bool → R) → R) (c49 : Int → PV → (PV → R) → R) (c50 : PV → (Int → R) → R) (c51 : PV → (Int → R) → R) (c52 : PV → PV → (Bool → R) → R) (c53 : PV → (PV → R) → R) : Env := { P := Try.prog, nilOwn := fun d => false, fldOwn := fun d i => (d == 102 && i == 5), ownPar := ownPars, ownRet := false, mask := f11_msk, fuel := k, C := f11_C c18 c46 c47 c48 c49 c50 c51 c52 c53 }
noncomputable def f11_code : Code := Try.f11.body.getD .skip
noncomputable def f11_cw1 : Code := subC f11_code [1, 1, 1, 1, 1, 1, 1, 0, 1, 0, 0]
noncomputable def f11_hw1_0 (p2 : PV) (p3 : PV) (n5 : Int) : St := ⟨[.dead, .ptr 1 [], .dead, .ptr 3 [], .ptr 4 [], .val 68 (PV.list [(PV.agg [(PV.int 0), (PV.agg [(PV.int 0), (PV.int 0), (PV.int 0), (PV.int 0)]), (PV.int 0), (PV.int 0), (PV.int 0), (PV.list [])]), (PV.agg [(PV.int 1), (PV.agg [(PV.int 0), (PV.int 0), (PV.int 0), (PV.int 0)]), (PV.int 0), (PV.int 0), (PV.int 0), (PV.list [])]), (PV.agg [(PV.int 7), (PV.agg [(PV.int 0), (PV.int 0), (PV.int 0), (PV.int 0)]), (PV.int 0), (PV.int 0), (PV.int 0), (PV.list [])]), (PV.agg [(PV.int 1), p3, (PV.int 0), (PV.int 0), (PV.int 1), (PV.list [])]), (PV.agg [(PV.int 2), (PV.agg [(PV.int 0), (PV.int 0), (PV.int 0), (PV.int 0)]), (PV.int 0), (PV.int 0), (PV.int 0), (PV.list [p2])]), (PV.agg [(PV.int 3), (PV.agg [(PV.int 0), (PV.int 0), (PV.int 0), (PV.int 0)]), (PV.int 0), (PV.int 0), (PV.int 0), (PV.list [p2])]), (PV.agg [(PV.int 2), (PV.agg [(PV.int 0), (PV.int 0), (PV.int 0), (PV.int 0)]), (PV.int 0), (PV.int 0), (PV.int 0), (PV.list [p2, (PV.agg [(PV.int 2), (PV.agg [(PV.int 0), (PV.int 0), (PV.int 0), (PV.int 0)]), (PV.int 0), (PV.int 0), (PV.int 0), (PV.list [p2, p2])])])]), (PV.agg [(PV.int 2), (PV.agg [(PV.int 0), (PV.int 0), (PV.int 0), (PV.int 0)]), (PV.int 0), (PV.int 0), (PV.int 0), (PV.list [p2, (PV.agg [(PV.int 3), (PV.agg [(PV.int 0), (PV.int 0), (PV.int 0), (PV.int 0)]), (PV.int 0), (PV.int 0), (PV.int 0), (PV.list [p2, (PV.agg [(PV.int 2), (PV.agg [(PV.int 0), (PV.int 0), (PV.int 0), (PV.int 0)]), (PV.int 0), (PV.int 0), (PV.int 0), (PV.list [p2, p2])])])])])]), (PV.agg [(PV.int 3), (PV.agg [(PV.int 0), (PV.int 0), (PV.int 0), (PV.int 0)]), (PV.int 0), (PV.int 0), (PV.int 0), (PV.list [p2, (PV.agg [(PV.int 3), (PV.agg [(PV.int 0), (PV.int 0), (PV.int 0), (PV.int 0)]), (PV.int 0), (PV.int 0), (PV.int 0), (PV.list [p2, (PV.agg [(PV.int 2), (PV.agg [(PV.int 0), (PV.int 0), (PV.int 0), (PV.int 0)]), (PV.int 0), (PV.int 0), (PV.int 0), (PV.list [p2, p2])])])])])]), (PV.agg [(PV.int 4), (PV.agg [(PV.int 0), (PV.int 0), (PV.int 0), (PV.int 0)]), (PV.int 0), (PV.int 0), (PV.int 0), (PV.list [(PV.agg [(PV.int 4), (PV.agg [(PV.int 0), (PV.int 0), (PV.int 0), (PV.int 0)]), (PV.int 0), (PV.int (-1)), (PV.int 0), (PV.list [p2])])])]), (PV.agg [(PV.int 4), (PV.agg [(PV.int 0), (PV.int 0), (PV.int 0), (PV.int 0)]), (PV.int 0), (PV.int 0), (PV.int 0), (PV.list [(PV.agg [(PV.int 2), (PV.agg [(PV.int 0), (PV.int 0), (PV.int 0), (PV.int 0)]), (PV.int 0), (PV.int 0), (PV.int 0), (PV.list [p2, p2])])])]), (PV.agg [(PV.int 4), (PV.agg [(PV.int 0), (PV.int 0), (PV.int 0), (PV.int 0)]), (PV.int 2), (PV.int 1), (PV.int 0), (PV.list [p2])]), (PV.agg [(PV.int 4), (PV.agg [(PV.int 0), (PV.int 0), (PV.int 0), (PV.int 0)]), (PV.int 256), (PV.int (-1)), (PV.int 0), (PV.list [p2])]), (PV.agg [(PV.int 4), (PV.agg [(PV.int 0), (PV.int 0), (PV.int 0), (PV.int 0)]), (PV.int 0), (PV.int (-2)), (PV.int 0), (PV.list [p2])]), (PV.agg [(PV.int 6), (PV.agg [(PV.int 0), (PV.int 0), (PV.int 0), (PV.int 0)]), (PV.int 0), (PV.int 0), (PV.int 0), (PV.list [p2, p2])]), (PV.agg [(PV.int 6), (PV.agg [(PV.int 0), (PV.int 0), (PV.int 0), (PV.int 0)]), (PV.int 0), (PV.int 0), (PV.int 1), (PV.list [p2])])]), .int .i64 n5, .dead, .dead, .dead, .dead, .dead, .dead, .dead, .dead, .dead, .dead, .dead, .dead, .dead, .dead, .dead, .dead, .dead, .dead, .dead, .dead, .dead, .dead, .dead, .dead, .dead, .dead, .dead, .dead, .dead, .dead, .dead, .dead, .dead, .dead, .dead, .dead, .dead, .dead, .dead, .dead, .dead, .dead, .dead, .dead, .dead, .dead, .dead, .dead, .dead, .dead, .dead, .dead, .dead, .dead, .dead, .dead, .dead, .dead, .dead, .dead, .dead, .dead, .dead, .dead, .dead, .dead, .dead, .dead, .dead, .dead, .dead, .dead, .dead, .dead, .dead, .dead, .dead, .dead, .dead, .dead, .dead, .dead, .dead, .dead, .dead, .dead, .dead, .dead, .dead, .dead, .dead, .dead, .dead, .dead, .dead, .dead, .dead, .dead, .dead, .dead, .dead, .dead, .dead, .dead, .dead, .dead, .dead, .dead, .dead, .dead, .dead, .dead, .dead, .dead, .dead, .dead, .dead, .dead, .dead, .dead, .dead, .dead, .dead, .dead, .dead, .dead, .dead, .dead, .dead, .dead, .dead, .dead, .dead, .dead, .dead, .dead, .dead, .dead, .dead, .dead, .dead, .dead, .dead, .dead, .dead, .dead, .dead, .dead, .dead, .dead, .dead, .dead, .dead, .dead, .dead, .dead, .dead, .dead, .dead, .dead, .dead, .dead, .dead, .dead, .dead, .dead, .dead, .dead, .dead, .dead, .dead, .dead, .dead, .dead, .dead, .dead, .dead, .dead, .dead, .dead, .dead, .dead, .dead, .dead, .dead, .dead, .dead, .dead, .dead, .dead, .dead, .dead, .dead, .dead, .dead, .dead, .dead, .dead, .dead, .dead, .dead], [(1, .box 70 (.val 70 p2)), (3, .box 70 (.val 70 (PV.agg [(PV.int 3), (PV.agg [(PV.int 0), (PV.int 0), (PV.int 0), (PV.int 0)]), (PV.int 0), (PV.int 0), (PV.int 0), (PV.list [p2, (PV.agg [(PV.int 2), (PV.agg [(PV.int 0), (PV.int 0), (PV.int 0), (PV.int 0)]), (PV.int 0), (PV.int 0), (PV.int 0), (PV.list [p2, p2])])])]))), (4, .box 70 (.val 70 (PV.agg [(PV.int 4), (PV.agg [(PV.int 0), (PV.int 0), (PV.int 0), (PV.int 0)]), (PV.int 0), (PV.int (-1)), (PV.int 0), (PV.list [p2])])))]⟩
noncomputable def f11_w1A (k : Nat) (c18 : PV → (PV → R) → R) (c46 : (Bool → R) → R) (c47 : Int → (PV → R) → R) (c48 : PV → (Bool → R) → R) (c49 : Int → PV → (PV → R) → R) (c50 : PV → (Int → R) → R) (c51 : PV → (Int → R) → R) (c52 : PV → PV → (Bool → R) → R) (c53 : PV → (PV → R) → R) (retF : Bool → R) (p2 : PV) (p3 : PV) (n5 : Int) : R := loopM (f11_E k c18 c46 c47 c48 c49 c50 c51 c52 c53) f11_cw1 (kont (f11_E k c18 c46 c47 c48 c49 c50 c51 c52 c53) f11_code [1, 1, 1, 1, 1, 1, 1, 0, 1, 0] (endK (f11_E k c18 c46 c47 c48 c49 c50 c51 c52 c53) Try.f11 [] f11_un retF)) k (f11_hw1_0 p2 p3 n5)
noncomputable def f11_cw2 : Code := subC f11_code [1, 1, 1, 1, 1, 1, 1, 1, 1, 1, 1, 0, 1, 0, 0]
noncomputable def f11_hw2_0 (p2 : PV) (p8 : PV) (p9 : PV) (n10 : Int) (p11 : PV) : St := ⟨[.dead, .ptr 1 [], .dead, .ptr 3 [], .ptr 4 [], .dead, .dead, .ptr 7 [], .ptr 8 [], .ptr 9 [], .int .i64 n10, .dead, .dead, .dead, .dead, .dead, .dead, .dead, .dead, .dead, .dead, .dead, .dead, .dead, .dead, .dead, .dead, .dead, .dead, .dead, .dead, .dead, .dead, .dead, .dead, .dead, .dead, .dead, .dead, .dead, .dead, .dead, .dead, .dead, .dead, .dead, .dead, .dead, .dead, .dead, .dead, .dead, .dead, .dead, .dead, .dead, .dead, .dead, .dead, .dead, .dead, .dead, .dead, .dead, .dead, .dead, .dead, .dead, .dead, .dead, .dead, .dead, .dead, .dead, .dead, .dead, .dead, .dead, .dead, .dead, .dead, .dead, .dead, .dead, .dead, .dead, .dead, .dead, .dead, .dead, .dead, .dead, .dead, .dead, .dead, .dead, .dead, .dead, .dead, .dead, .dead, .dead, .dead, .dead, .dead, .dead, .dead, .dead, .dead, .dead, .dead, .dead, .dead, .dead, .dead, .dead, .dead, .dead, .dead, .dead, .dead, .dead, .dead, .dead, .dead, .dead, .dead, .dead, .dead, .dead, .dead, .dead, .dead, .dead, .dead, .dead, .dead, .dead, .dead, .dead, .dead, .dead, .dead, .dead, .dead, .dead, .dead, .dead, .dead, .dead, .dead, .dead, .dead, .dead, .dead, .dead, .dead, .dead, .dead, .dead, .dead, .dead, .dead, .dead, .dead, .dead, .dead, .dead, .dead, .dead, .dead, .dead, .dead, .dead, .dead, .dead, .dead, .dead, .dead, .dead, .dead, .dead, .dead, .dead, .dead, .dead, .dead, .dead, .dead, .dead, .dead, .dead, .dead, .dead, .dead, .dead, .dead, .dead, .dead, .dead, .dead, .dead, .dead, .dead, .dead, .dead, .dead, .dead], [(1, .box 70 (.val 70 p2)), (3, .box 70 (.val 70 (PV.agg [(PV.int 3), (PV.agg [(PV.int 0), (PV.int 0), (PV.int 0), (PV.int 0)]), (PV.int 0), (PV.int 0), (PV.int 0), (PV.list [p2, (PV.agg [(PV.int 2), (PV.agg [(PV.int 0), (PV.int 0), (PV.int 0), (PV.int 0)]), (PV.int 0), (PV.int 0), (PV.int 0), (PV.list [p2, p2])])])]))), (4, .box 70 (.val 70 (PV.agg [(PV.int 4), (PV.agg [(PV.int 0), (PV.int 0), (PV.int 0), (PV.int 0)]), (PV.int 0), (PV.int (-1)), (PV.int 0), (PV.list [p2])]))), (7, .box 70 (.val 70 p8)), (8, .box 70 (.val 70 p9)), (9, .box 70 (.val 70 p11))]⟩
noncomputable def f11_w2A (k : Nat) (c18 : PV → (PV → R) → R) (c46 : (Bool → R) → R) (c47 : Int → (PV → R) → R) (c48 : PV → (Bool → R) → R) (c49 : Int → PV → (PV → R) → R) (c50 : PV → (Int → R) → R) (c51 : PV → (Int → R) → R) (c52 : PV → PV → (Bool → R) → R) (c53 : PV → (PV → R) → R) (retF : Bool → R) (p2 : PV) (p8 : PV) (p9 : PV) (n10 : Int) (p11 : PV) : R := loopM (f11_E k c18 c46 c47 c48 c49 c50 c51 c52 c53) f11_cw2 (kont (f11_E k c18 c46 c47 c48 c49 c50 c51 c52 c53) f11_code [1, 1, 1, 1, 1, 1, 1, 1, 1, 1, 1, 0, 1, 0] (endK (f11_E k c18 c46 c47 c48 c49 c50 c51 c52 c53) Try.f11 [] f11_un retF)) k (f11_hw2_0 p2 p8 p9 n10 p11)
noncomputable def f11_cw3 : Code := subC f11_code [1, 1, 1, 1, 1, 1, 1, 1, 1, 1, 1, 1, 1, 1, 0, 1, 0, 0]
noncomputable def f11_hw3_0 (p2 : PV) (p8 : PV) (p9 : PV) (p11 : PV) : St := ⟨[.dead, .ptr 1 [], .dead, .ptr 3 [], .ptr 4 [], .dead, .dead, .ptr 7 [], .ptr 8 [], .ptr 9 [], .dead, .ptr 11 [], .ptr 12 [], .int .i64 0, .dead, .dead, .dead, .dead, .dead, .dead, .dead, .dead, .dead, .dead, .dead, .dead, .dead, .dead, .dead, .dead, .dead, .dead, .dead, .dead, .dead, .dead, .dead, .dead, .dead, .dead, .dead, .dead, .dead, .dead, .dead, .dead, .dead, .dead, .dead, .dead, .dead, .dead, .dead, .dead, .dead, .dead, .dead, .dead, .dead, .dead, .dead, .dead, .dead, .dead, .dead, .dead, .dead, .dead, .dead, .dead, .dead, .dead, .dead, .dead, .dead, .dead, .dead, .dead, .dead, .dead, .dead, .dead, .dead, .dead, .dead, .dead, .dead, .dead, .dead, .dead, .dead, .dead, .dead, .dead, .dead, .dead, .dead, .dead, .dead, .dead, .dead, .dead, .dead, .dead, .dead, .dead, .dead, .dead, .dead, .dead, .dead, .dead, .dead, .dead, .dead, .dead, .dead, .dead, .dead, .dead, .dead, .dead, .dead, .dead, .dead, .dead, .dead, .dead, .dead, .dead, .dead, .dead, .dead, .dead, .dead, .dead, .dead, .dead, .dead, .dead, .dead, .dead, .dead, .dead, .dead, .dead, .dead, .dead, .dead, .dead, .dead, .dead, .dead, .dead, .dead, .dead, .dead, .dead, .dead, .dead, .dead, .dead, .dead, .dead, .dead, .dead, .dead, .dead, .dead, .dead, .dead, .dead, .dead, .dead, .dead, .dead, .dead, .dead, .dead, .dead, .dead, .dead, .dead, .dead, .dead, .dead, .dead, .dead, .dead, .dead, .dead, .dead, .dead, .dead, .dead, .dead, .dead, .dead, .dead, .dead, .dead, .dead, .dead, .dead, .dead, .dead, .dead, .dead], [(1, .box 70 (.val 70 p2)), (3, .box 70 (.val 70 (PV.agg [(PV.int 3), (PV.agg [(PV.int 0), (PV.int 0), (PV.int 0), (PV.int 0)]), (PV.int 0), (PV.int 0), (PV.int 0), (PV.list [p2, (PV.agg [(PV.int 2), (PV.agg [(PV.int 0), (PV.int 0), (PV.int 0), (PV.int 0)]), (PV.int 0), (PV.int 0), (PV.int 0), (PV.list [p2, p2])])])]))), (4, .box 70 (.val 70 (PV.agg [(PV.int 4), (PV.agg [(PV.int 0), (PV.int 0), (PV.int 0), (PV.int 0)]), (PV.int 0), (PV.int (-1)), (PV.int 0), (PV.list [p2])]))), (7, .box 70 (.val 70 p8)), (8, .box 70 (.val 70 p9)), (9, .box 70 (.val 70 p11)), (11, .box 70 (.val 70 (PV.agg [(PV.int 6), (PV.agg [(PV.int 0), (PV.int 0), (PV.int 0), (PV.int 0)]), (PV.int 0), (PV.int 0), (PV.int 0), (PV.list [p11])]))), (12, .box 70 (.agg 70 [.int .i64 2, .val 24 (PV.agg [(PV.int 0), (PV.int 0), (PV.int 0), (PV.int 0)]), .int .i64 0, .int .i64 0, .int .i64 0, .nils]))]⟩
noncomputable def f11_hw3_1 (p2 : PV) (p8 : PV) (p9 : PV) (p11 : PV) (n12 : Int) (l13 : List PV) : St := ⟨[.dead, .ptr 1 [], .dead, .ptr 3 [], .ptr 4 [], .dead, .dead, .ptr 7 [], .ptr 8 [], .ptr 9 [], .dead, .ptr 11 [], .ptr 12 [], .int .i64 n12, .dead, .dead, .dead, .dead, .dead, .dead, .dead, .dead, .dead, .dead, .dead, .dead, .dead, .dead, .dead, .dead, .dead, .dead, .dead, .dead, .dead, .dead, .dead, .dead, .dead, .dead, .dead, .dead, .dead, .dead, .dead, .dead, .dead, .dead, .dead, .dead, .dead, .dead, .dead, .dead, .dead, .dead, .dead, .dead, .dead, .dead, .dead, .dead, .dead, .dead, .dead, .dead, .dead, .dead, .dead, .dead, .dead, .dead, .dead, .dead, .dead, .dead, .dead, .dead, .dead, .dead, .dead, .dead, .dead, .dead, .dead, .dead, .dead, .dead, .dead, .dead, .dead, .dead, .dead, .dead, .dead, .dead, .dead, .dead, .dead, .dead, .dead, .dead, .dead, .dead, .dead, .dead, .dead, .dead, .dead, .dead, .dead, .dead, .dead, .dead, .dead, .dead, .dead, .dead, .dead, .dead, .dead, .dead, .dead, .dead, .dead, .dead, .dead, .dead, .dead, .dead, .dead, .dead, .dead, .dead, .dead, .dead, .dead, .dead, .dead, .dead, .dead, .dead, .dead, .dead, .dead, .dead, .dead, .dead, .dead, .dead, .dead, .dead, .dead, .dead, .dead, .dead, .dead, .dead, .dead, .dead, .dead, .dead, .dead, .dead, .dead, .dead, .dead, .dead, .dead, .dead, .dead, .dead, .dead, .dead, .dead, .dead, .dead, .dead, .dead, .dead, .dead, .dead, .dead, .dead, .dead, .dead, .dead, .dead, .dead, .dead, .dead, .dead, .dead, .dead, .dead, .dead, .dead, .dead, .dead, .dead, .dead, .dead, .dead, .dead, .dead, .dead, .dead, .dead], [(1, .box 70 (.val 70 p2)), (3, .box 70 (.val 70 (PV.agg [(PV.int 3), (PV.agg [(PV.int 0), (PV.int 0), (PV.int 0), (PV.int 0)]), (PV.int 0), (PV.int 0), (PV.int 0), (PV.list [p2, (PV.agg [(PV.int 2), (PV.agg [(PV.int 0), (PV.int 0), (PV.int 0), (PV.int 0)]), (PV.int 0), (PV.int 0), (PV.int 0), (PV.list [p2, p2])])])]))), (4, .box 70 (.val 70 (PV.agg [(PV.int 4), (PV.agg [(PV.int 0), (PV.int 0), (PV.int 0), (PV.int 0)]), (PV.int 0), (PV.int (-1)), (PV.int 0), (PV.list [p2])]))), (7, .box 70 (.val 70 p8)), (8, .box 70 (.val 70 p9)), (9, .box 70 (.val 70 p11)), (11, .box 70 (.val 70 (PV.agg [(PV.int 6), (PV.agg [(PV.int 0), (PV.int 0), (PV.int 0), (PV.int 0)]), (PV.int 0), (PV.int 0), (PV.int 0), (PV.list [p11])]))), (12, .box 70 (.agg 70 [.int .i64 2, .val 24 (PV.agg [(PV.int 0), (PV.int 0), (PV.int 0), (PV.int 0)]), .int .i64 0, .int .i64 0, .int .i64 0, .own 68 111])), (111, .row 70 l13)]⟩
noncomputable def f11_w3A (k : Nat) (c18 : PV → (PV → R) → R) (c46 : (Bool → R) → R) (c47 : Int → (PV → R) → R) (c48 : PV → (Bool → R) → R) (c49 : Int → PV → (PV → R) → R) (c50 : PV → (Int → R) → R) (c51 : PV → (Int → R) → R) (c52 : PV → PV → (Bool → R) → R) (c53 : PV → (PV → R) → R) (retF : Bool → R) (p2 : PV) (p8 : PV) (p9 : PV) (p11 : PV) : R := loopM (f11_E k c18 c46 c47 c48 c49 c50 c51 c52 c53) f11_cw3 (kont (f11_E k c18 c46 c47 c48 c49 c50 c51 c52 c53) f11_code [1, 1, 1, 1, 1, 1, 1, 1, 1, 1, 1, 1, 1, 1, 0, 1, 0] (endK (f11_E k c18 c46 c47 c48 c49 c50 c51 c52 c53) Try.f11 [] f11_un retF)) k (f11_hw3_0 p2 p8 p9 p11)
noncomputable def f11_w3b0 (c18 : PV → (PV → R) → R) (c46 : (Bool → R) → R) (c47 : Int → (PV → R) → R) (c48 : PV → (Bool → R) → R) (c49 : Int → PV → (PV → R) → R) (c50 : PV → (Int → R) → R) (c51 : PV → (Int → R) → R) (c52 : PV → PV → (Bool → R) → R) (c53 : PV → (PV → R) → R) (ret0 : Bool → R) (next_w3_0 : Unit → R) (next_w3_1 : Int → (List PV) → R) (p2 : PV) (p8 : PV) (p9 : PV) (p11 : PV) : R :=
  next_w3_1 1 [p2]

theorem f11_w3b0_mem (k : Nat) (c18 : PV → (PV → R) → R) (c46 : (Bool → R) → R) (c47 : Int → (PV → R) → R) (c48 : PV → (Bool → R) → R) (c49 : Int → PV → (PV → R) → R) (c50 : PV → (Int → R) → R) (c51 : PV → (Int → R) → R) (c52 : PV → PV → (Bool → R) → R) (c53 : PV → (PV → R) → R) (retF : Bool → R) (NX_w3 : St → R) (p2 : PV) (p8 : PV) (p9 : PV) (p11 : PV) : exec (f11_E k c18 c46 c47 c48 c49 c50 c51 c52 c53) f11_cw3 (purgeK (f11_E k c18 c46 c47 c48 c49 c50 c51 c52 c53) f11_cw3 (loopK NX_w3 (kont (f11_E k c18 c46 c47 c48 c49 c50 c51 c52 c53) f11_code [1, 1, 1, 1, 1, 1, 1, 1, 1, 1, 1, 1, 1, 1, 0, 1, 0] (endK (f11_E k c18 c46 c47 c48 c49 c50 c51 c52 c53) Try.f11 [] f11_un retF)))) (f11_hw3_0 p2 p8 p9 p11) = f11_w3b0 c18 c46 c47 c48 c49 c50 c51 c52 c53 (fun y0 => retF y0) (fun _ => NX_w3 (f11_hw3_0 p2 p8 p9 p11)) (fun n12 l13 => NX_w3 (f11_hw3_1 p2 p8 p9 p11 n12 l13)) p2 p8 p9 p11 := by kernel_rfl

noncomputable def f11_w3b0N (k : Nat) (c18 : PV → (PV → R) → R) (c46 : (Bool → R) → R) (c47 : Int → (PV → R) → R) (c48 : PV → (Bool → R) → R) (c49 : Int → PV → (PV → R) → R) (c50 : PV → (Int → R) → R) (c51 : PV → (Int → R) → R) (c52 : PV → PV → (Bool → R) → R) (c53 : PV → (PV → R) → R) (ret0 : Bool → R) (next_w3_0 : Unit → R) (next_w3_1 : Int → (List PV) → R) (p2 : PV) (p8 : PV) (p9 : PV) (p11 : PV) : R :=
  f11_w3b0 c18 c46 c47 c48 c49 c50 c51 c52 c53 ret0 next_w3_0 next_w3_1 p2 p8 p9 p11
theorem f11_w3b0_eq (k : Nat) (c18 : PV → (PV → R) → R) (c46 : (Bool → R) → R) (c47 : Int → (PV → R) → R) (c48 : PV → (Bool → R) → R) (c49 : Int → PV → (PV → R) → R) (c50 : PV → (Int → R) → R) (c51 : PV → (Int → R) → R) (c52 : PV → PV → (Bool → R) → R) (c53 : PV → (PV → R) → R) (retF : Bool → R) (NX_w3 : St → R) (p2 : PV) (p8 : PV) (p9 : PV) (p11 : PV) : exec (f11_E k c18 c46 c47 c48 c49 c50 c51 c52 c53) f11_cw3 (purgeK (f11_E k c18 c46 c47 c48 c49 c50 c51 c52 c53) f11_cw3 (loopK NX_w3 (kont (f11_E k c18 c46 c47 c48 c49 c50 c51 c52 c53) f11_code [1, 1, 1, 1, 1, 1, 1, 1, 1, 1, 1, 1, 1, 1, 0, 1, 0] (endK (f11_E k c18 c46 c47 c48 c49 c50 c51 c52 c53) Try.f11 [] f11_un retF)))) (f11_hw3_0 p2 p8 p9 p11) = f11_w3b0N k c18 c46 c47 c48 c49 c50 c51 c52 c53 (fun y0 => retF y0) (fun _ => NX_w3 (f11_hw3_0 p2 p8 p9 p11)) (fun n12 l13 => NX_w3 (f11_hw3_1 p2 p8 p9 p11 n12 l13)) p2 p8 p9 p11 :=
  (f11_w3b0_mem k c18 c46 c47 c48 c49 c50 c51 c52 c53 retF NX_w3 p2 p8 p9 p11)

noncomputable def f11_w3b1 (c18 : PV → (PV → R) → R) (c46 : (Bool → R) → R) (c47 : Int → (PV → R) → R) (c48 : PV → (Bool → R) → R) (c49 : Int → PV → (PV → R) → R) (c50 : PV → (Int → R) → R) (c51 : PV → (Int → R) → R) (c52 : PV → PV → (Bool → R) → R) (c53 : PV → (PV → R) → R) (ret0 : Bool → R) (next_w3_0 : Unit → R) (next_w3_1 : Int → (List PV) → R) (p2 : PV) (p8 : PV) (p9 : PV) (p11 : PV) (n12 : Int) (l13 : List PV) : R :=
  bif (decide (n12 < (2000 : Int))) then
    bif (true && roomy (List.length l13 + List.length [p2]) 88) then
      next_w3_1 (IntKind.wrap .i64 (n12 + (1 : Int))) (l13 ++ [p2])
    else none
  else c48 (PV.agg [(PV.bool false), (PV.bool false), (PV.agg [(PV.int 3), (PV.agg [(PV.int 0), (PV.int 0), (PV.int 0), (PV.int 0)]), (PV.int 0), (PV.int 0), (PV.int 0), (PV.list [p2, (PV.agg [(PV.int 2), (PV.agg [(PV.int 0), (PV.int 0), (PV.int 0), (PV.int 0)]), (PV.int 0), (PV.int 0), (PV.int 0), (PV.list [p2, p2])])])]), (PV.int 0)]) fun b14 =>
  bif (b14 == true) then
    c48 (PV.agg [(PV.bool false), (PV.bool false), (PV.agg [(PV.int 4), (PV.agg [(PV.int 0), (PV.int 0), (PV.int 0), (PV.int 0)]), (PV.int 0), (PV.int (-1)), (PV.int 0), (PV.list [p2])]), (PV.int 0)]) fun b15 =>
    bif (b15 == true) then
      c48 (PV.agg [(PV.bool false), (PV.bool false), p8, (PV.int 1)]) fun b16 =>
      bif (b16 == true) then
        c48 (PV.agg [(PV.bool false), (PV.bool false), p8, (PV.int 0)]) fun b17 =>
        bif ((!b17) == true) then
          c48 (PV.agg [(PV.bool false), (PV.bool false), p9, (PV.int 1)]) fun b18 =>
          bif ((!b18) == true) then
            c49 1 p9 fun p19 =>
            c49 3 p2 fun p20 =>
            c48 (PV.agg [(PV.bool false), (PV.bool false), (PV.agg [(PV.int 2), (PV.agg [(PV.int 0), (PV.int 0), (PV.int 0), (PV.int 0)]), (PV.int 0), (PV.int 0), (PV.int 0), (PV.list [p19, p20])]), (PV.int 3)]) fun b21 =>
            bif (b21 == true) then
              c49 1 p2 fun p22 =>
              c49 2 p22 fun p23 =>
              c48 (PV.agg [(PV.bool false), (PV.bool false), (PV.agg [(PV.int 2), (PV.agg [(PV.int 0), (PV.int 0), (PV.int 0), (PV.int 0)]), (PV.int 0), (PV.int 0), (PV.int 0), (PV.list [p23, p2])]), (PV.int 2)]) fun b24 =>
              bif ((!b24) == true) then
                c48 (PV.agg [(PV.bool false), (PV.bool false), p11, (PV.int 0)]) fun b25 =>
                bif (b25 == true) then
                  c50 p11 fun n26 =>
                  bif ((decide (n26 = (64 : Int))) == true) then
                    c48 (PV.agg [(PV.bool false), (PV.bool false), (PV.agg [(PV.int 6), (PV.agg [(PV.int 0), (PV.int 0), (PV.int 0), (PV.int 0)]), (PV.int 0), (PV.int 0), (PV.int 0), (PV.list [p11])]), (PV.int 0)]) fun b27 =>
                    bif ((!b27) == true) then
                      c50 (PV.agg [(PV.int 6), (PV.agg [(PV.int 0), (PV.int 0), (PV.int 0), (PV.int 0)]), (PV.int 0), (PV.int 0), (PV.int 0), (PV.list [p11])]) fun n28 =>
                      bif ((decide (n28 = (65 : Int))) == true) then
                        c48 (PV.agg [(PV.bool false), (PV.bool false), (PV.agg [(PV.int 2), (PV.agg [(PV.int 0), (PV.int 0), (PV.int 0), (PV.int 0)]), (PV.int 0), (PV.int 0), (PV.int 0), (PV.list l13)]), (PV.int 0)]) fun b29 =>
                        bif ((!b29) == true) then
                          c51 (PV.agg [(PV.int 2), (PV.agg [(PV.int 0), (PV.int 0), (PV.int 0), (PV.int 0)]), (PV.int 0), (PV.int 0), (PV.int 0), (PV.list l13)]) fun n30 =>
                          bif ((decide (n30 = (2001 : Int))) == true) then
                            c52 (PV.agg [(PV.int 3), (PV.agg [(PV.int 0), (PV.int 0), (PV.int 0), (PV.int 0)]), (PV.int 0), (PV.int 0), (PV.int 0), (PV.list [p2, (PV.agg [(PV.int 2), (PV.agg [(PV.int 0), (PV.int 0), (PV.int 0), (PV.int 0)]), (PV.int 0), (PV.int 0), (PV.int 0), (PV.list [p2, p2])])])]) (PV.agg [(PV.int 3), (PV.agg [(PV.int 0), (PV.int 0), (PV.int 0), (PV.int 0)]), (PV.int 0), (PV.int 0), (PV.int 0), (PV.list [p2, (PV.agg [(PV.int 2), (PV.agg [(PV.int 0), (PV.int 0), (PV.int 0), (PV.int 0)]), (PV.int 0), (PV.int 0), (PV.int 0), (PV.list [p2, p2])])])]) fun b31 =>
                            bif (b31 == true) then
                              c52 (PV.agg [(PV.int 3), (PV.agg [(PV.int 0), (PV.int 0), (PV.int 0), (PV.int 0)]), (PV.int 0), (PV.int 0), (PV.int 0), (PV.list [p2, (PV.agg [(PV.int 2), (PV.agg [(PV.int 0), (PV.int 0), (PV.int 0), (PV.int 0)]), (PV.int 0), (PV.int 0), (PV.int 0), (PV.list [p2, p2])])])]) (PV.agg [(PV.int 4), (PV.agg [(PV.int 0), (PV.int 0), (PV.int 0), (PV.int 0)]), (PV.int 0), (PV.int (-1)), (PV.int 0), (PV.list [p2])]) fun b32 =>
                              bif ((!b32) == true) then
                                c53 (PV.agg [(PV.int 3), (PV.agg [(PV.int 0), (PV.int 0), (PV.int 0), (PV.int 0)]), (PV.int 0), (PV.int 0), (PV.int 0), (PV.list [p2, (PV.agg [(PV.int 2), (PV.agg [(PV.int 0), (PV.int 0), (PV.int 0), (PV.int 0)]), (PV.int 0), (PV.int 0), (PV.int 0), (PV.list [p2, p2])])])]) fun p33 =>
                                ret0 (decide ((List.length (PV.els p33) : Int) = (1 : Int)))
                              else ret0 false
                            else ret0 false
                          else ret0 false
                        else ret0 false
                      else ret0 false
                    else ret0 false
                  else ret0 false
                else ret0 false
              else ret0 false
            else ret0 false
          else ret0 false
        else ret0 false
      else ret0 false
    else ret0 false
  else ret0 false

theorem f11_w3b1_mem (k : Nat) (c18 : PV → (PV → R) → R) (c46 : (Bool → R) → R) (c47 : Int → (PV → R) → R) (c48 : PV → (Bool → R) → R) (c49 : Int → PV → (PV → R) → R) (c50 : PV → (Int → R) → R) (c51 : PV → (Int → R) → R) (c52 : PV → PV → (Bool → R) → R) (c53 : PV → (PV → R) → R) (retF : Bool → R) (NX_w3 : St → R) (p2 : PV) (p8 : PV) (p9 : PV) (p11 : PV) (n12 : Int) (l13 : List PV) : exec (f11_E k c18 c46 c47 c48 c49 c50 c51 c52 c53) f11_cw3 (purgeK (f11_E k c18 c46 c47 c48 c49 c50 c51 c52 c53) f11_cw3 (loopK NX_w3 (kont (f11_E k c18 c46 c47 c48 c49 c50 c51 c52 c53) f11_code [1, 1, 1, 1, 1, 1, 1, 1, 1, 1, 1, 1, 1, 1, 0, 1, 0] (endK (f11_E k c18 c46 c47 c48 c49 c50 c51 c52 c53) Try.f11 [] f11_un retF)))) (f11_hw3_1 p2 p8 p9 p11 n12 l13) = f11_w3b1 c18 c46 c47 c48 c49 c50 c51 c52 c53 (fun y0 => retF y0) (fun _ => NX_w3 (f11_hw3_0 p2 p8 p9 p11)) (fun n12 l13 => NX_w3 (f11_hw3_1 p2 p8 p9 p11 n12 l13)) p2 p8 p9 p11 n12 l13 := by kernel_rfl

noncomputable def f11_w3b1N (k : Nat) (c18 : PV → (PV → R) → R) (c46 : (Bool → R) → R) (c47 : Int → (PV → R) → R) (c48 : PV → (Bool → R) → R) (c49 : Int → PV → (PV → R) → R) (c50 : PV → (Int → R) → R) (c51 : PV → (Int → R) → R) (c52 : PV → PV → (Bool → R) → R) (c53 : PV → (PV → R) → R) (ret0 : Bool → R) (next_w3_0 : Unit → R) (next_w3_1 : Int → (List PV) → R) (p2 : PV) (p8 : PV) (p9 : PV) (p11 : PV) (n12 : Int) (l13 : List PV) : R :=
  f11_w3b1 c18 c46 c47 c48 c49 c50 c51 c52 c53 ret0 next_w3_0 next_w3_1 p2 p8 p9 p11 n12 l13
theorem f11_w3b1_eq (k : Nat) (c18 : PV → (PV → R) → R) (c46 : (Bool → R) → R) (c47 : Int → (PV → R) → R) (c48 : PV → (Bool → R) → R) (c49 : Int → PV → (PV → R) → R) (c50 : PV → (Int → R) → R) (c51 : PV → (Int → R) → R) (c52 : PV → PV → (Bool → R) → R) (c53 : PV → (PV → R) → R) (retF : Bool → R) (NX_w3 : St → R) (p2 : PV) (p8 : PV) (p9 : PV) (p11 : PV) (n12 : Int) (l13 : List PV) : exec (f11_E k c18 c46 c47 c48 c49 c50 c51 c52 c53) f11_cw3 (purgeK (f11_E k c18 c46 c47 c48 c49 c50 c51 c52 c53) f11_cw3 (loopK NX_w3 (kont (f11_E k c18 c46 c47 c48 c49 c50 c51 c52 c53) f11_code [1, 1, 1, 1, 1, 1, 1, 1, 1, 1, 1, 1, 1, 1, 0, 1, 0] (endK (f11_E k c18 c46 c47 c48 c49 c50 c51 c52 c53) Try.f11 [] f11_un retF)))) (f11_hw3_1 p2 p8 p9 p11 n12 l13) = f11_w3b1N k c18 c46 c47 c48 c49 c50 c51 c52 c53 (fun y0 => retF y0) (fun _ => NX_w3 (f11_hw3_0 p2 p8 p9 p11)) (fun n12 l13 => NX_w3 (f11_hw3_1 p2 p8 p9 p11 n12 l13)) p2 p8 p9 p11 n12 l13 :=
  (f11_w3b1_mem k c18 c46 c47 c48 c49 c50 c51 c52 c53 retF NX_w3 p2 p8 p9 p11 n12 l13)

noncomputable def f11_w3B (k : Nat) (c18 : PV → (PV → R) → R) (c46 : (Bool → R) → R) (c47 : Int → (PV → R) → R) (c48 : PV → (Bool → R) → R) (c49 : Int → PV → (PV → R) → R) (c50 : PV → (Int → R) → R) (c51 : PV → (Int → R) → R) (c52 : PV → PV → (Bool → R) → R) (c53 : PV → (PV → R) → R) (ret0 : Bool → R) (p2 : PV) (p8 : PV) (p9 : PV) (p11 : PV) (nx : Sum (Unit) (Int × (List PV)) → R) : Sum (Unit) (Int × (List PV)) → R := (Sum.elim (fun s => f11_w3b0N k c18 c46 c47 c48 c49 c50 c51 c52 c53 ret0 (fun _ => nx (.inl ())) (fun n12 l13 => nx (.inr (n12, l13))) p2 p8 p9 p11) (fun s => f11_w3b1N k c18 c46 c47 c48 c49 c50 c51 c52 c53 ret0 (fun _ => nx (.inl ())) (fun n12 l13 => nx (.inr (n12, l13))) p2 p8 p9 p11 s.1 s.2))
noncomputable def f11_w3N (k : Nat) (c18 : PV → (PV → R) → R) (c46 : (Bool → R) → R) (c47 : Int → (PV → R) → R) (c48 : PV → (Bool → R) → R) (c49 : Int → PV → (PV → R) → R) (c50 : PV → (Int → R) → R) (c51 : PV → (Int → R) → R) (c52 : PV → PV → (Bool → R) → R) (c53 : PV → (PV → R) → R) (ret0 : Bool → R) (p2 : PV) (p8 : PV) (p9 : PV) (p11 : PV) : R := loopR (f11_w3B k c18 c46 c47 c48 c49 c50 c51 c52 c53 ret0 p2 p8 p9 p11) k (.inl ())
theorem f11_w3_eq (k : Nat) (c18 : PV → (PV → R) → R) (c46 : (Bool → R) → R) (c47 : Int → (PV → R) → R) (c48 : PV → (Bool → R) → R) (c49 : Int → PV → (PV → R) → R) (c50 : PV → (Int → R) → R) (c51 : PV → (Int → R) → R) (c52 : PV → PV → (Bool → R) → R) (c53 : PV → (PV → R) → R) (retF : Bool → R) (p2 : PV) (p8 : PV) (p9 : PV) (p11 : PV) : f11_w3A k c18 c46 c47 c48 c49 c50 c51 c52 c53 retF p2 p8 p9 p11 = f11_w3N k c18 c46 c47 c48 c49 c50 c51 c52 c53 (fun y0 => retF y0) p2 p8 p9 p11 :=
  Eq.mp (by kernel_rfl) (loop_sim (E := (f11_E k c18 c46 c47 c48 c49 c50 c51 c52 c53)) (c := f11_cw3) (K := (kont (f11_E k c18 c46 c47 c48 c49 c50 c51 c52 c53) f11_code [1, 1, 1, 1, 1, 1, 1, 1, 1, 1, 1, 1, 1, 1, 0, 1, 0] (endK (f11_E k c18 c46 c47 c48 c49 c50 c51 c52 c53) Try.f11 [] f11_un retF))) (S := Sum (Unit) (Int × (List PV))) (Sum.elim (fun s => f11_hw3_0 p2 p8 p9 p11) (fun s => f11_hw3_1 p2 p8 p9 p11 s.1 s.2)) (f11_w3B k c18 c46 c47 c48 c49 c50 c51 c52 c53 (fun y0 => retF y0) p2 p8 p9 p11) (fun NX s => by
    cases s with
    | inl s => exact Eq.mp (by kernel_rfl) (f11_w3b0_eq k c18 c46 c47 c48 c49 c50 c51 c52 c53 retF NX p2 p8 p9 p11)
    | inr s =>
      exact Eq.mp (by kernel_rfl) (f11_w3b1_eq k c18 c46 c47 c48 c49 c50 c51 c52 c53 retF NX p2 p8 p9 p11 s.1 s.2)) k (.inl ()))

noncomputable def f11_w2b0 (c18 : PV → (PV → R) → R) (c46 : (Bool → R) → R) (c47 : Int → (PV → R) → R) (c48 : PV → (Bool → R) → R) (c49 : Int → PV → (PV → R) → R) (c50 : PV → (Int → R) → R) (c51 : PV → (Int → R) → R) (c52 : PV → PV → (Bool → R) → R) (c53 : PV → (PV → R) → R) (ret0 : Bool → R) (w3 : Unit → R) (next_w2_0 : Int → PV → R) (p2 : PV) (p8 : PV) (p9 : PV) (n10 : Int) (p11 : PV) : R :=
  bif (decide (n10 < (63 : Int))) then
    next_w2_0 (IntKind.wrap .i64 (n10 + (1 : Int))) (PV.agg [(PV.int 6), (PV.agg [(PV.int 0), (PV.int 0), (PV.int 0), (PV.int 0)]), (PV.int 0), (PV.int 0), (PV.int 0), (PV.list [p11])])
  else w3 ()

theorem f11_w2b0_mem (k : Nat) (c18 : PV → (PV → R) → R) (c46 : (Bool → R) → R) (c47 : Int → (PV → R) → R) (c48 : PV → (Bool → R) → R) (c49 : Int → PV → (PV → R) → R) (c50 : PV → (Int → R) → R) (c51 : PV → (Int → R) → R) (c52 : PV → PV → (Bool → R) → R) (c53 : PV → (PV → R) → R) (retF : Bool → R) (NX_w2 : St → R) (p2 : PV) (p8 : PV) (p9 : PV) (n10 : Int) (p11 : PV) : exec (f11_E k c18 c46 c47 c48 c49 c50 c51 c52 c53) f11_cw2 (purgeK (f11_E k c18 c46 c47 c48 c49 c50 c51 c52 c53) f11_cw2 (loopK NX_w2 (kont (f11_E k c18 c46 c47 c48 c49 c50 c51 c52 c53) f11_code [1, 1, 1, 1, 1, 1, 1, 1, 1, 1, 1, 0, 1, 0] (endK (f11_E k c18 c46 c47 c48 c49 c50 c51 c52 c53) Try.f11 [] f11_un retF)))) (f11_hw2_0 p2 p8 p9 n10 p11) = f11_w2b0 c18 c46 c47 c48 c49 c50 c51 c52 c53 (fun y0 => retF y0) (fun _ => f11_w3A k c18 c46 c47 c48 c49 c50 c51 c52 c53 retF p2 p8 p9 p11) (fun n10 p11 => NX_w2 (f11_hw2_0 p2 p8 p9 n10 p11)) p2 p8 p9 n10 p11 := by kernel_rfl

noncomputable def f11_w2b0N (k : Nat) (c18 : PV → (PV → R) → R) (c46 : (Bool → R) → R) (c47 : Int → (PV → R) → R) (c48 : PV → (Bool → R) → R) (c49 : Int → PV → (PV → R) → R) (c50 : PV → (Int → R) → R) (c51 : PV → (Int → R) → R) (c52 : PV → PV → (Bool → R) → R) (c53 : PV → (PV → R) → R) (ret0 : Bool → R) (next_w2_0 : Int → PV → R) (p2 : PV) (p8 : PV) (p9 : PV) (n10 : Int) (p11 : PV) : R :=
  f11_w2b0 c18 c46 c47 c48 c49 c50 c51 c52 c53 ret0 (fun _ => f11_w3N k c18 c46 c47 c48 c49 c50 c51 c52 c53 ret0 p2 p8 p9 p11) next_w2_0 p2 p8 p9 n10 p11
theorem f11_w2b0_eq (k : Nat) (c18 : PV → (PV → R) → R) (c46 : (Bool → R) → R) (c47 : Int → (PV → R) → R) (c48 : PV → (Bool → R) → R) (c49 : Int → PV → (PV → R) → R) (c50 : PV → (Int → R) → R) (c51 : PV → (Int → R) → R) (c52 : PV → PV → (Bool → R) → R) (c53 : PV → (PV → R) → R) (retF : Bool → R) (NX_w2 : St → R) (p2 : PV) (p8 : PV) (p9 : PV) (n10 : Int) (p11 : PV) : exec (f11_E k c18 c46 c47 c48 c49 c50 c51 c52 c53) f11_cw2 (purgeK (f11_E k c18 c46 c47 c48 c49 c50 c51 c52 c53) f11_cw2 (loopK NX_w2 (kont (f11_E k c18 c46 c47 c48 c49 c50 c51 c52 c53) f11_code [1, 1, 1, 1, 1, 1, 1, 1, 1, 1, 1, 0, 1, 0] (endK (f11_E k c18 c46 c47 c48 c49 c50 c51 c52 c53) Try.f11 [] f11_un retF)))) (f11_hw2_0 p2 p8 p9 n10 p11) = f11_w2b0N k c18 c46 c47 c48 c49 c50 c51 c52 c53 (fun y0 => retF y0) (fun n10 p11 => NX_w2 (f11_hw2_0 p2 p8 p9 n10 p11)) p2 p8 p9 n10 p11 :=
  (f11_w2b0_mem k c18 c46 c47 c48 c49 c50 c51 c52 c53 retF NX_w2 p2 p8 p9 n10 p11).trans (by rw [show (fun _ => f11_w3A k c18 c46 c47 c48 c49 c50 c51 c52 c53 retF p2 p8 p9 p11) = (fun _ => f11_w3N k c18 c46 c47 c48 c49 c50 c51 c52 c53 (fun y0 => retF y0) p2 p8 p9 p11) from funext fun _ => f11_w3_eq k c18 c46 c47 c48 c49 c50 c51 c52 c53 retF p2 p8 p9 p11]; rfl)

noncomputable def f11_w2B (k : Nat) (c18 : PV → (PV → R) → R) (c46 : (Bool → R) → R) (c47 : Int → (PV → R) → R) (c48 : PV → (Bool → R) → R) (c49 : Int → PV → (PV → R) → R) (c50 : PV → (Int → R) → R) (c51 : PV → (Int → R) → R) (c52 : PV → PV → (Bool → R) → R) (c53 : PV → (PV → R) → R) (ret0 : Bool → R) (p2 : PV) (p8 : PV) (p9 : PV) (nx : Int × PV → R) : Int × PV → R := (fun s => f11_w2b0N k c18 c46 c47 c48 c49 c50 c51 c52 c53 ret0 (fun n10 p11 => nx (n10, p11)) p2 p8 p9 s.1 s.2)
noncomputable def f11_w2N (k : Nat) (c18 : PV → (PV → R) → R) (c46 : (Bool → R) → R) (c47 : Int → (PV → R) → R) (c48 : PV → (Bool → R) → R) (c49 : Int → PV → (PV → R) → R) (c50 : PV → (Int → R) → R) (c51 : PV → (Int → R) → R) (c52 : PV → PV → (Bool → R) → R) (c53 : PV → (PV → R) → R) (ret0 : Bool → R) (p2 : PV) (p8 : PV) (p9 : PV) (n10 : Int) (p11 : PV) : R := loopR (f11_w2B k c18 c46 c47 c48 c49 c50 c51 c52 c53 ret0 p2 p8 p9) k (n10, p11)
theorem f11_w2_eq (k : Nat) (c18 : PV → (PV → R) → R) (c46 : (Bool → R) → R) (c47 : Int → (PV → R) → R) (c48 : PV → (Bool → R) → R) (c49 : Int → PV → (PV → R) → R) (c50 : PV → (Int → R) → R) (c51 : PV → (Int → R) → R) (c52 : PV → PV → (Bool → R) → R) (c53 : PV → (PV → R) → R) (retF : Bool → R) (p2 : PV) (p8 : PV) (p9 : PV) (n10 : Int) (p11 : PV) : f11_w2A k c18 c46 c47 c48 c49 c50 c51 c52 c53 retF p2 p8 p9 n10 p11 = f11_w2N k c18 c46 c47 c48 c49 c50 c51 c52 c53 (fun y0 => retF y0) p2 p8 p9 n10 p11 :=
  Eq.mp (by kernel_rfl) (loop_sim (E := (f11_E k c18 c46 c47 c48 c49 c50 c51 c52 c53)) (c := f11_cw2) (K := (kont (f11_E k c18 c46 c47 c48 c49 c50 c51 c52 c53) f11_code [1, 1, 1, 1, 1, 1, 1, 1, 1, 1, 1, 0, 1, 0] (endK (f11_E k c18 c46 c47 c48 c49 c50 c51 c52 c53) Try.f11 [] f11_un retF))) (S := Int × PV) (fun s => f11_hw2_0 p2 p8 p9 s.1 s.2) (f11_w2B k c18 c46 c47 c48 c49 c50 c51 c52 c53 (fun y0 => retF y0) p2 p8 p9) (fun NX s => by
    exact Eq.mp (by kernel_rfl) (f11_w2b0_eq k c18 c46 c47 c48 c49 c50 c51 c52 c53 retF NX p2 p8 p9 s.1 s.2)) k (n10, p11))

noncomputable def f11_w1b0 (c18 : PV → (PV → R) → R) (c46 : (Bool → R) → R) (c47 : Int → (PV → R) → R) (c48 : PV → (Bool → R) → R) (c49 : Int → PV → (PV → R) → R) (c50 : PV → (Int → R) → R) (c51 : PV → (Int → R) → R) (c52 : PV → PV → (Bool → R) → R) (c53 : PV → (PV → R) → R) (ret0 : Bool → R) (w2 : PV → PV → Int → PV → R) (next_w1_0 : Int → R) (p2 : PV) (p3 : PV) (n5 : Int) : R :=
  bif (decide (n5 < (16 : Int))) then
    bif (true && decide ((0 : Int) ≤ n5) && decide (n5 < (List.length [(PV.agg [(PV.int 0), (PV.agg [(PV.int 0), (PV.int 0), (PV.int 0), (PV.int 0)]), (PV.int 0), (PV.int 0), (PV.int 0), (PV.list [])]), (PV.agg [(PV.int 1), (PV.agg [(PV.int 0), (PV.int 0), (PV.int 0), (PV.int 0)]), (PV.int 0), (PV.int 0), (PV.int 0), (PV.list [])]), (PV.agg [(PV.int 7), (PV.agg [(PV.int 0), (PV.int 0), (PV.int 0), (PV.int 0)]), (PV.int 0), (PV.int 0), (PV.int 0), (PV.list [])]), (PV.agg [(PV.int 1), p3, (PV.int 0), (PV.int 0), (PV.int 1), (PV.list [])]), (PV.agg [(PV.int 2), (PV.agg [(PV.int 0), (PV.int 0), (PV.int 0), (PV.int 0)]), (PV.int 0), (PV.int 0), (PV.int 0), (PV.list [p2])]), (PV.agg [(PV.int 3), (PV.agg [(PV.int 0), (PV.int 0), (PV.int 0), (PV.int 0)]), (PV.int 0), (PV.int 0), (PV.int 0), (PV.list [p2])]), (PV.agg [(PV.int 2), (PV.agg [(PV.int 0), (PV.int 0), (PV.int 0), (PV.int 0)]), (PV.int 0), (PV.int 0), (PV.int 0), (PV.list [p2, (PV.agg [(PV.int 2), (PV.agg [(PV.int 0), (PV.int 0), (PV.int 0), (PV.int 0)]), (PV.int 0), (PV.int 0), (PV.int 0), (PV.list [p2, p2])])])]), (PV.agg [(PV.int 2), (PV.agg [(PV.int 0), (PV.int 0), (PV.int 0), (PV.int 0)]), (PV.int 0), (PV.int 0), (PV.int 0), (PV.list [p2, (PV.agg [(PV.int 3), (PV.agg [(PV.int 0), (PV.int 0), (PV.int 0), (PV.int 0)]), (PV.int 0), (PV.int 0), (PV.int 0), (PV.list [p2, (PV.agg [(PV.int 2), (PV.agg [(PV.int 0), (PV.int 0), (PV.int 0), (PV.int 0)]), (PV.int 0), (PV.int 0), (PV.int 0), (PV.list [p2, p2])])])])])]), (PV.agg [(PV.int 3), (PV.agg [(PV.int 0), (PV.int 0), (PV.int 0), (PV.int 0)]), (PV.int 0), (PV.int 0), (PV.int 0), (PV.list [p2, (PV.agg [(PV.int 3), (PV.agg [(PV.int 0), (PV.int 0), (PV.int 0), (PV.int 0)]), (PV.int 0), (PV.int 0), (PV.int 0), (PV.list [p2, (PV.agg [(PV.int 2), (PV.agg [(PV.int 0), (PV.int 0), (PV.int 0), (PV.int 0)]), (PV.int 0), (PV.int 0), (PV.int 0), (PV.list [p2, p2])])])])])]), (PV.agg [(PV.int 4), (PV.agg [(PV.int 0), (PV.int 0), (PV.int 0), (PV.int 0)]), (PV.int 0), (PV.int 0), (PV.int 0), (PV.list [(PV.agg [(PV.int 4), (PV.agg [(PV.int 0), (PV.int 0), (PV.int 0), (PV.int 0)]), (PV.int 0), (PV.int (-1)), (PV.int 0), (PV.list [p2])])])]), (PV.agg [(PV.int 4), (PV.agg [(PV.int 0), (PV.int 0), (PV.int 0), (PV.int 0)]), (PV.int 0), (PV.int 0), (PV.int 0), (PV.list [(PV.agg [(PV.int 2), (PV.agg [(PV.int 0), (PV.int 0), (PV.int 0), (PV.int 0)]), (PV.int 0), (PV.int 0), (PV.int 0), (PV.list [p2, p2])])])]), (PV.agg [(PV.int 4), (PV.agg [(PV.int 0), (PV.int 0), (PV.int 0), (PV.int 0)]), (PV.int 2), (PV.int 1), (PV.int 0), (PV.list [p2])]), (PV.agg [(PV.int 4), (PV.agg [(PV.int 0), (PV.int 0), (PV.int 0), (PV.int 0)]), (PV.int 256), (PV.int (-1)), (PV.int 0), (PV.list [p2])]), (PV.agg [(PV.int 4), (PV.agg [(PV.int 0), (PV.int 0), (PV.int 0), (PV.int 0)]), (PV.int 0), (PV.int (-2)), (PV.int 0), (PV.list [p2])]), (PV.agg [(PV.int 6), (PV.agg [(PV.int 0), (PV.int 0), (PV.int 0), (PV.int 0)]), (PV.int 0), (PV.int 0), (PV.int 0), (PV.list [p2, p2])]), (PV.agg [(PV.int 6), (PV.agg [(PV.int 0), (PV.int 0), (PV.int 0), (PV.int 0)]), (PV.int 0), (PV.int 0), (PV.int 1), (PV.list [p2])])] : Int))) then
      let p6 : PV := (List.getD [(PV.agg [(PV.int 0), (PV.agg [(PV.int 0), (PV.int 0), (PV.int 0), (PV.int 0)]), (PV.int 0), (PV.int 0), (PV.int 0), (PV.list [])]), (PV.agg [(PV.int 1), (PV.agg [(PV.int 0), (PV.int 0), (PV.int 0), (PV.int 0)]), (PV.int 0), (PV.int 0), (PV.int 0), (PV.list [])]), (PV.agg [(PV.int 7), (PV.agg [(PV.int 0), (PV.int 0), (PV.int 0), (PV.int 0)]), (PV.int 0), (PV.int 0), (PV.int 0), (PV.list [])]), (PV.agg [(PV.int 1), p3, (PV.int 0), (PV.int 0), (PV.int 1), (PV.list [])]), (PV.agg [(PV.int 2), (PV.agg [(PV.int 0), (PV.int 0), (PV.int 0), (PV.int 0)]), (PV.int 0), (PV.int 0), (PV.int 0), (PV.list [p2])]), (PV.agg [(PV.int 3), (PV.agg [(PV.int 0), (PV.int 0), (PV.int 0), (PV.int 0)]), (PV.int 0), (PV.int 0), (PV.int 0), (PV.list [p2])]), (PV.agg [(PV.int 2), (PV.agg [(PV.int 0), (PV.int 0), (PV.int 0), (PV.int 0)]), (PV.int 0), (PV.int 0), (PV.int 0), (PV.list [p2, (PV.agg [(PV.int 2), (PV.agg [(PV.int 0), (PV.int 0), (PV.int 0), (PV.int 0)]), (PV.int 0), (PV.int 0), (PV.int 0), (PV.list [p2, p2])])])]), (PV.agg [(PV.int 2), (PV.agg [(PV.int 0), (PV.int 0), (PV.int 0), (PV.int 0)]), (PV.int 0), (PV.int 0), (PV.int 0), (PV.list [p2, (PV.agg [(PV.int 3), (PV.agg [(PV.int 0), (PV.int 0), (PV.int 0), (PV.int 0)]), (PV.int 0), (PV.int 0), (PV.int 0), (PV.list [p2, (PV.agg [(PV.int 2), (PV.agg [(PV.int 0), (PV.int 0), (PV.int 0), (PV.int 0)]), (PV.int 0), (PV.int 0), (PV.int 0), (PV.list [p2, p2])])])])])]), (PV.agg [(PV.int 3), (PV.agg [(PV.int 0), (PV.int 0), (PV.int 0), (PV.int 0)]), (PV.int 0), (PV.int 0), (PV.int 0), (PV.list [p2, (PV.agg [(PV.int 3), (PV.agg [(PV.int 0), (PV.int 0), (PV.int 0), (PV.int 0)]), (PV.int 0), (PV.int 0), (PV.int 0), (PV.list [p2, (PV.agg [(PV.int 2), (PV.agg [(PV.int 0), (PV.int 0), (PV.int 0), (PV.int 0)]), (PV.int 0), (PV.int 0), (PV.int 0), (PV.list [p2, p2])])])])])]), (PV.agg [(PV.int 4), (PV.agg [(PV.int 0), (PV.int 0), (PV.int 0), (PV.int 0)]), (PV.int 0), (PV.int 0), (PV.int 0), (PV.list [(PV.agg [(PV.int 4), (PV.agg [(PV.int 0), (PV.int 0), (PV.int 0), (PV.int 0)]), (PV.int 0), (PV.int (-1)), (PV.int 0), (PV.list [p2])])])]), (PV.agg [(PV.int 4), (PV.agg [(PV.int 0), (PV.int 0), (PV.int 0), (PV.int 0)]), (PV.int 0), (PV.int 0), (PV.int 0), (PV.list [(PV.agg [(PV.int 2), (PV.agg [(PV.int 0), (PV.int 0), (PV.int 0), (PV.int 0)]), (PV.int 0), (PV.int 0), (PV.int 0), (PV.list [p2, p2])])])]), (PV.agg [(PV.int 4), (PV.agg [(PV.int 0), (PV.int 0), (PV.int 0), (PV.int 0)]), (PV.int 2), (PV.int 1), (PV.int 0), (PV.list [p2])]), (PV.agg [(PV.int 4), (PV.agg [(PV.int 0), (PV.int 0), (PV.int 0), (PV.int 0)]), (PV.int 256), (PV.int (-1)), (PV.int 0), (PV.list [p2])]), (PV.agg [(PV.int 4), (PV.agg [(PV.int 0), (PV.int 0), (PV.int 0), (PV.int 0)]), (PV.int 0), (PV.int (-2)), (PV.int 0), (PV.list [p2])]), (PV.agg [(PV.int 6), (PV.agg [(PV.int 0), (PV.int 0), (PV.int 0), (PV.int 0)]), (PV.int 0), (PV.int 0), (PV.int 0), (PV.list [p2, p2])]), (PV.agg [(PV.int 6), (PV.agg [(PV.int 0), (PV.int 0), (PV.int 0), (PV.int 0)]), (PV.int 0), (PV.int 0), (PV.int 1), (PV.list [p2])])] (n5).toNat PV.nil)
      c48 (PV.agg [(PV.bool false), (PV.bool false), p6, (PV.int 0)]) fun b7 =>
      bif b7 then
        ret0 false
      else next_w1_0 (IntKind.wrap .i64 (n5 + (1 : Int)))
    else none
  else c49 1 p2 fun p8 =>
  c49 2 p2 fun p9 =>
  w2 p8 p9 0 p2

theorem f11_w1b0_mem (k : Nat) (c18 : PV → (PV → R) → R) (c46 : (Bool → R) → R) (c47 : Int → (PV → R) → R) (c48 : PV → (Bool → R) → R) (c49 : Int → PV → (PV → R) → R) (c50 : PV → (Int → R) → R) (c51 : PV → (Int → R) → R) (c52 : PV → PV → (Bool → R) → R) (c53 : PV → (PV → R) → R) (retF : Bool → R) (NX_w1 : St → R) (p2 : PV) (p3 : PV) (n5 : Int) : exec (f11_E k c18 c46 c47 c48 c49 c50 c51 c52 c53) f11_cw1 (purgeK (f11_E k c18 c46 c47 c48 c49 c50 c51 c52 c53) f11_cw1 (loopK NX_w1 (kont (f11_E k c18 c46 c47 c48 c49 c50 c51 c52 c53) f11_code [1, 1, 1, 1, 1, 1, 1, 0, 1, 0] (endK (f11_E k c18 c46 c47 c48 c49 c50 c51 c52 c53) Try.f11 [] f11_un retF)))) (f11_hw1_0 p2 p3 n5) = f11_w1b0 c18 c46 c47 c48 c49 c50 c51 c52 c53 (fun y0 => retF y0) (fun p8 p9 n10 p11 => f11_w2A k c18 c46 c47 c48 c49 c50 c51 c52 c53 retF p2 p8 p9 n10 p11) (fun n5 => NX_w1 (f11_hw1_0 p2 p3 n5)) p2 p3 n5 := by kernel_rfl

noncomputable def f11_w1b0N (k : Nat) (c18 : PV → (PV → R) → R) (c46 : (Bool → R) → R) (c47 : Int → (PV → R) → R) (c48 : PV → (Bool → R) → R) (c49 : Int → PV → (PV → R) → R) (c50 : PV → (Int → R) → R) (c51 : PV → (Int → R) → R) (c52 : PV → PV → (Bool → R) → R) (c53 : PV → (PV → R) → R) (ret0 : Bool → R) (next_w1_0 : Int → R) (p2 : PV) (p3 : PV) (n5 : Int) : R :=
  f11_w1b0 c18 c46 c47 c48 c49 c50 c51 c52 c53 ret0 (fun p8 p9 n10 p11 => f11_w2N k c18 c46 c47 c48 c49 c50 c51 c52 c53 ret0 p2 p8 p9 n10 p11) next_w1_0 p2 p3 n5
theorem f11_w1b0_eq (k : Nat) (c18 : PV → (PV → R) → R) (c46 : (Bool → R) → R) (c47 : Int → (PV → R) → R) (c48 : PV → (Bool → R) → R) (c49 : Int → PV → (PV → R) → R) (c50 : PV → (Int → R) → R) (c51 : PV → (Int → R) → R) (c52 : PV → PV → (Bool → R) → R) (c53 : PV → (PV → R) → R) (retF : Bool → R) (NX_w1 : St → R) (p2 : PV) (p3 : PV) (n5 : Int) : exec (f11_E k c18 c46 c47 c48 c49 c50 c51 c52 c53) f11_cw1 (purgeK (f11_E k c18 c46 c47 c48 c49 c50 c51 c52 c53) f11_cw1 (loopK NX_w1 (kont (f11_E k c18 c46 c47 c48 c49 c50 c51 c52 c53) f11_code [1, 1, 1, 1, 1, 1, 1, 0, 1, 0] (endK (f11_E k c18 c46 c47 c48 c49 c50 c51 c52 c53) Try.f11 [] f11_un retF)))) (f11_hw1_0 p2 p3 n5) = f11_w1b0N k c18 c46 c47 c48 c49 c50 c51 c52 c53 (fun y0 => retF y0) (fun n5 => NX_w1 (f11_hw1_0 p2 p3 n5)) p2 p3 n5 :=
  (f11_w1b0_mem k c18 c46 c47 c48 c49 c50 c51 c52 c53 retF NX_w1 p2 p3 n5).trans (by rw [show (fun p8 p9 n10 p11 => f11_w2A k c18 c46 c47 c48 c49 c50 c51 c52 c53 retF p2 p8 p9 n10 p11) = (fun p8 p9 n10 p11 => f11_w2N k c18 c46 c47 c48 c49 c50 c51 c52 c53 (fun y0 => retF y0) p2 p8 p9 n10 p11) from funext fun p8 => funext fun p9 => funext fun n10 => funext fun p11 => f11_w2_eq k c18 c46 c47 c48 c49 c50 c51 c52 c53 retF p2 p8 p9 n10 p11]; rfl)

noncomputable def f11_w1B (k : Nat) (c18 : PV → (PV → R) → R) (c46 : (Bool → R) → R) (c47 : Int → (PV → R) → R) (c48 : PV → (Bool → R) → R) (c49 : Int → PV → (PV → R) → R) (c50 : PV → (Int → R) → R) (c51 : PV → (Int → R) → R) (c52 : PV → PV → (Bool → R) → R) (c53 : PV → (PV → R) → R) (ret0 : Bool → R) (p2 : PV) (p3 : PV) (nx : Int → R) : Int → R := (fun s => f11_w1b0N k c18 c46 c47 c48 c49 c50 c51 c52 c53 ret0 (fun n5 => nx n5) p2 p3 s)
noncomputable def f11_w1N (k : Nat) (c18 : PV → (PV → R) → R) (c46 : (Bool → R) → R) (c47 : Int → (PV → R) → R) (c48 : PV → (Bool → R) → R) (c49 : Int → PV → (PV → R) → R) (c50 : PV → (Int → R) → R) (c51 : PV → (Int → R) → R) (c52 : PV → PV → (Bool → R) → R) (c53 : PV → (PV → R) → R) (ret0 : Bool → R) (p2 : PV) (p3 : PV) (n5 : Int) : R := loopR (f11_w1B k c18 c46 c47 c48 c49 c50 c51 c52 c53 ret0 p2 p3) k n5
theorem f11_w1_eq (k : Nat) (c18 : PV → (PV → R) → R) (c46 : (Bool → R) → R) (c47 : Int → (PV → R) → R) (c48 : PV → (Bool → R) → R) (c49 : Int → PV → (PV → R) → R) (c50 : PV → (Int → R) → R) (c51 : PV → (Int → R) → R) (c52 : PV → PV → (Bool → R) → R) (c53 : PV → (PV → R) → R) (retF : Bool → R) (p2 : PV) (p3 : PV) (n5 : Int) : f11_w1A k c18 c46 c47 c48 c49 c50 c51 c52 c53 retF p2 p3 n5 = f11_w1N k c18 c46 c47 c48 c49 c50 c51 c52 c53 (fun y0 => retF y0) p2 p3 n5 :=
  Eq.mp (by kernel_rfl) (loop_sim (E := (f11_E k c18 c46 c47 c48 c49 c50 c51 c52 c53)) (c := f11_cw1) (K := (kont (f11_E k c18 c46 c47 c48 c49 c50 c51 c52 c53) f11_code [1, 1, 1, 1, 1, 1, 1, 0, 1, 0] (endK (f11_E k c18 c46 c47 c48 c49 c50 c51 c52 c53) Try.f11 [] f11_un retF))) (S := Int) (fun s => f11_hw1_0 p2 p3 s) (f11_w1B k c18 c46 c47 c48 c49 c50 c51 c52 c53 (fun y0 => retF y0) p2 p3) (fun NX s => by
    exact Eq.mp (by kernel_rfl) (f11_w1b0_eq k c18 c46 c47 c48 c49 c50 c51 c52 c53 retF NX p2 p3 s)) k n5)

noncomputable def f11_e (c18 : PV → (PV → R) → R) (c46 : (Bool → R) → R) (c47 : Int → (PV → R) → R) (c48 : PV → (Bool → R) → R) (c49 : Int → PV → (PV → R) → R) (c50 : PV → (Int → R) → R) (c51 : PV → (Int → R) → R) (c52 : PV → PV → (Bool → R) → R) (c53 : PV → (PV → R) → R) (ret0 : Bool → R) (w1 : PV → PV → Int → R) : R :=
  c46 fun b1 =>
  bif (!b1) then
    ret0 false
  else c47 97 fun p2 =>
  c18 (PV.list [(PV.int 97)]) fun p3 =>
  w1 p2 p3 0

theorem f11_e_mem (k : Nat) (c18 : PV → (PV → R) → R) (c46 : (Bool → R) → R) (c47 : Int → (PV → R) → R) (c48 : PV → (Bool → R) → R) (c49 : Int → PV → (PV → R) → R) (c50 : PV → (Int → R) → R) (c51 : PV → (Int → R) → R) (c52 : PV → PV → (Bool → R) → R) (c53 : PV → (PV → R) → R) (retF : Bool → R) : exec (f11_E k c18 c46 c47 c48 c49 c50 c51 c52 c53) f11_code (endK (f11_E k c18 c46 c47 c48 c49 c50 c51 c52 c53) Try.f11 [] f11_un retF) ⟨[.undef, .undef, .undef, .undef, .undef, .undef, .undef, .undef, .undef, .undef, .undef, .undef, .undef, .undef, .undef, .undef, .undef, .undef, .undef, .undef, .undef, .undef, .undef, .undef, .undef, .undef, .undef, .undef, .undef, .undef, .undef, .undef, .undef, .undef, .undef, .undef, .undef, .undef, .undef, .undef, .undef, .undef, .undef, .undef, .undef, .undef, .undef, .undef, .undef, .undef, .undef, .undef, .undef, .undef, .undef, .undef, .undef, .undef, .undef, .undef, .undef, .undef, .undef, .undef, .undef, .undef, .undef, .undef, .undef, .undef, .undef, .undef, .undef, .undef, .undef, .undef, .undef, .undef, .undef, .undef, .undef, .undef, .undef, .undef, .undef, .undef, .undef, .undef, .undef, .undef, .undef, .undef, .undef, .undef, .undef, .undef, .undef, .undef, .undef, .undef, .undef, .undef, .undef, .undef, .undef, .undef, .undef, .undef, .undef, .undef, .undef, .undef, .undef, .undef, .undef, .undef, .undef, .undef, .undef, .undef, .undef, .undef, .undef, .undef, .undef, .undef, .undef, .undef, .undef, .undef, .undef, .undef, .undef, .undef, .undef, .undef, .undef, .undef, .undef, .undef, .undef, .undef, .undef, .undef, .undef, .undef, .undef, .undef, .undef, .undef, .undef, .undef, .undef, .undef, .undef, .undef, .undef, .undef, .undef, .undef, .undef, .undef, .undef, .undef, .undef, .undef, .undef, .undef, .undef, .undef, .undef, .undef, .undef, .undef, .undef, .undef, .undef, .undef, .undef, .undef, .undef, .undef, .undef, .undef, .undef, .undef, .undef, .undef, .undef, .undef, .undef, .undef, .undef, .undef, .undef, .undef, .undef, .undef, .undef, .undef, .undef, .undef, .undef, .undef, .undef, .undef, .undef, .undef], []⟩ = f11_e c18 c46 c47 c48 c49 c50 c51 c52 c53 (fun y0 => retF y0) (fun p2 p3 n5 => f11_w1A k c18 c46 c47 c48 c49 c50 c51 c52 c53 retF p2 p3 n5) := by kernel_rfl

noncomputable def f11_N (k : Nat) (c18 : PV → (PV → R) → R) (c46 : (Bool → R) → R) (c47 : Int → (PV → R) → R) (c48 : PV → (Bool → R) → R) (c49 : Int → PV → (PV → R) → R) (c50 : PV → (Int → R) → R) (c51 : PV → (Int → R) → R) (c52 : PV → PV → (Bool → R) → R) (c53 : PV → (PV → R) → R) (ret0 : Bool → R) : R :=
  f11_e c18 c46 c47 c48 c49 c50 c51 c52 c53 ret0 (fun p2 p3 n5 => f11_w1N k c18 c46 c47 c48 c49 c50 c51 c52 c53 ret0 p2 p3 n5)
theorem f11_eq (k : Nat) (c18 : PV → (PV → R) → R) (c46 : (Bool → R) → R) (c47 : Int → (PV → R) → R) (c48 : PV → (Bool → R) → R) (c49 : Int → PV → (PV → R) → R) (c50 : PV → (Int → R) → R) (c51 : PV → (Int → R) → R) (c52 : PV → PV → (Bool → R) → R) (c53 : PV → (PV → R) → R) (retF : Bool → R) : exec (f11_E k c18 c46 c47 c48 c49 c50 c51 c52 c53) f11_code (endK (f11_E k c18 c46 c47 c48 c49 c50 c51 c52 c53) Try.f11 [] f11_un retF) ⟨[.undef, .undef, .undef, .undef, .undef, .undef, .undef, .undef, .undef, .undef, .undef, .undef, .undef, .undef, .undef, .undef, .undef, .undef, .undef, .undef, .undef, .undef, .undef, .undef, .undef, .undef, .undef, .undef, .undef, .undef, .undef, .undef, .undef, .undef, .undef, .undef, .undef, .undef, .undef, .undef, .undef, .undef, .undef, .undef, .undef, .undef, .undef, .undef, .undef, .undef, .undef, .undef, .undef, .undef, .undef, .undef, .undef, .undef, .undef, .undef, .undef, .undef, .undef, .undef, .undef, .undef, .undef, .undef, .undef, .undef, .undef, .undef, .undef, .undef, .undef, .undef, .undef, .undef, .undef, .undef, .undef, .undef, .undef, .undef, .undef, .undef, .undef, .undef, .undef, .undef, .undef, .undef, .undef, .undef, .undef, .undef, .undef, .undef, .undef, .undef, .undef, .undef, .undef, .undef, .undef, .undef, .undef, .undef, .undef, .undef, .undef, .undef, .undef, .undef, .undef, .undef, .undef, .undef, .undef, .undef, .undef, .undef, .undef, .undef, .undef, .undef, .undef, .undef, .undef, .undef, .undef, .undef, .undef, .undef, .undef, .undef, .undef, .undef, .undef, .undef, .undef, .undef, .undef, .undef, .undef, .undef, .undef, .undef, .undef, .undef, .undef, .undef, .undef, .undef, .undef, .undef, .undef, .undef, .undef, .undef, .undef, .undef, .undef, .undef, .undef, .undef, .undef, .undef, .undef, .undef, .undef, .undef, .undef, .undef, .undef, .undef, .undef, .undef, .undef, .undef, .undef, .undef, .undef, .undef, .undef, .undef, .undef, .undef, .undef, .undef, .undef, .undef, .undef, .undef, .undef, .undef, .undef, .undef, .undef, .undef, .undef, .undef, .undef, .undef, .undef, .undef, .undef, .undef], []⟩ = f11_N k c18 c46 c47 c48 c49 c50 c51 c52 c53 (fun y0 => retF y0) :=
  (f11_e_mem k c18 c46 c47 c48 c49 c50 c51 c52 c53 retF).trans (by rw [show (fun p2 p3 n5 => f11_w1A k c18 c46 c47 c48 c49 c50 c51 c52 c53 retF p2 p3 n5) = (fun p2 p3 n5 => f11_w1N k c18 c46 c47 c48 c49 c50 c51 c52 c53 (fun y0 => retF y0) p2 p3 n5) from funext fun p2 => funext fun p3 => funext fun n5 => f11_w1_eq k c18 c46 c47 c48 c49 c50 c51 c52 c53 retF p2 p3 n5]; rfl)

noncomputable def G11 : Nat → (Bool → R) → R
  | 0, _ => none
  | k + 1, ret0 => f11_N k (G18 k) (G46 k) (G47 k) (G48 k) (G49 k) (G50 k) (G51 k) (G52 k) (G53 k) ret0 
theorem S11 : ∀ k, Snd Try.prog 11 f11_I f11_O (fun x ret => G11 k (fun y0 => ret y0))
  | 0 => snd_none
  | k + 1 => snd_step (E := f11_E k (G18 k) (G46 k) (G47 k) (G48 k) (G49 k) (G50 k) (G51 k) (G52 k) (G53 k)) rfl laidOut noNums (orc_ok (S18 k).o f18_D_ok (orc_ok (S46 k).o f46_D_ok (orc_ok (S47 k).o f47_D_ok (orc_ok (S48 k).o f48_D_ok (orc_ok (S49 k).o f49_D_ok (orc_ok (S50 k).o f50_D_ok (orc_ok (S51 k).o f51_D_ok (orc_ok (S52 k).o f52_D_ok (orc_ok (S53 k).o f53_D_ok orc0_ok))))))))) (f := 11) (fn := Try.f11) (code := f11_code) Try.func11 (by kernel_rfl) (drawsOk_of laidOut (orc_ok (S18 k).o f18_D_ok (orc_ok (S46 k).o f46_D_ok (orc_ok (S47 k).o f47_D_ok (orc_ok (S48 k).o f48_D_ok (orc_ok (S49 k).o f49_D_ok (orc_ok (S50 k).o f50_D_ok (orc_ok (S51 k).o f51_D_ok (orc_ok (S52 k).o f52_D_ok (orc_ok (S53 k).o f53_D_ok orc0_ok))))))))) mixed (by kernel_rfl)) f11_un f11_un_ok [] (fun _ => rfl)
      (fun x ret => f11_eq k (G18 k) (G46 k) (G47 k) (G48 k) (G49 k) (G50 k) (G51 k) (G52 k) (G53 k) ret)

end Go.Proofs.Ytifnlmfhbepjcaa
