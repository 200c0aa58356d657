/- Functions of the program as Lean functions, each tied to the program by the kernel: catchpolelaw2.ClassSays, catchpolelaw2.ClassKnown -/
import Derived.Test.YtifnlmfhbepjcaaXC
import Derived.Test.YtifnlmfhbepjcaaProg
import Derived.KernelRfl
set_option linter.unusedVariables false
set_option maxRecDepth 100000
namespace Go.Proofs.Ytifnlmfhbepjcaa
open Go Go.X
theorem laidOut : laidOutB Try.prog = true := by kernel_rfl
theorem noNums : noNum Try.prog = true := by kernel_rfl
theorem mixed : Try.prog.follows .mixedOrders = true := by kernel_rfl
noncomputable def ownPars : FuncId → Nat → Bool := fun f i => false

/- catchpole/byteset.Range -/
noncomputable def f22_I : Int × Int → List SV × Obs := fun x => ([.int .u8 x.1, .int .u8 x.2], [])
noncomputable def f22_D : List SV → Obs → Option (Int × Int)
  | [.int .u8 n1, .int .u8 n2], [] => some (n1, n2)
  | _, _ => none
theorem f22_D_ok (args : List SV) (B : Obs) (x : Int × Int) (h : f22_D args B = some x) : f22_I x = (args, B) := by
  unfold f22_D at h
  split at h
  · injection h with h; subst h; rfl
  · cases h
noncomputable def f22_O : PV → Out := (fun y => ([.val 24 y], []))
noncomputable def f22_un : Out → Option (PV)
  | ([.val 24 y0], []) => some y0
  | _ => none
theorem f22_un_ok (o : Out) (y : PV) (h : f22_un o = some y) : o = f22_O y := by
  unfold f22_un at h
  split at h
  · injection h with h; subst h; rfl
  · cases h
noncomputable def f22_msk : Nat → Option (List Nat) := fun key => bif key == 9 then some [1, 4, 5, 6] else none
noncomputable def f22_C : Oracle := orc0
noncomputable def f22_E (k : Nat) : Env := { P := Try.prog, nilOwn := fun d => false, fldOwn := fun d i => false, ownPar := ownPars, ownRet := false, mask := f22_msk, fuel := k, C := f22_C }
noncomputable def f22_code : Code := Try.f22.body.getD .skip
noncomputable def f22_cw1 : Code := subC f22_code [1, 1, 0, 1, 0, 0]
noncomputable def f22_hw1_0 (n2 : Int) (n6 : Int) (p7 : PV) : St := ⟨[.dead, .int .u8 n2, .dead, .dead, .ptr 4 [], .ptr 5 [], .int .i64 n6, .dead, .dead, .dead, .dead, .dead, .dead, .dead, .dead, .dead, .dead, .dead, .dead, .dead, .dead, .dead, .dead, .dead, .dead], [(4, .box 24 (.val 24 (PV.agg [(PV.int 0), (PV.int 0), (PV.int 0), (PV.int 0)]))), (5, .box 24 (.val 24 p7))]⟩
noncomputable def f22_w1A (k : Nat) (retF : PV → R) (n2 : Int) (n6 : Int) (p7 : PV) : R := loopM (f22_E k) f22_cw1 (kont (f22_E k) f22_code [1, 1, 0, 1, 0] (endK (f22_E k) Try.f22 [] f22_un retF)) k (f22_hw1_0 n2 n6 p7)
noncomputable def f22_w1b0 (ret0 : PV → R) (next_w1_0 : Int → PV → R) (n2 : Int) (n6 : Int) (p7 : PV) : R :=
  bif (decide (n6 ≤ (IntKind.wrap .i64 n2))) then
    bif (true && decide ((0 : Int) ≤ (IntKind.wrap .i64 (Int.tdiv n6 64))) && decide ((IntKind.wrap .i64 (Int.tdiv n6 64)) < 4)) then
      bif (decide ((0 : Int) ≤ (Int.tmod n6 64))) then
        let n8 : Int := (intBit .or .u64 (PV.num (PV.fld p7 ((IntKind.wrap .i64 (Int.tdiv n6 64))).toNat)) (IntKind.wrap .u64 ((1 : Int) * 2 ^ (min ((Int.tmod n6 64)).toNat 64))))
        bif (true && decide ((0 : Int) ≤ (IntKind.wrap .i64 (Int.tdiv n6 64))) && decide ((IntKind.wrap .i64 (Int.tdiv n6 64)) < 4)) then
          next_w1_0 (IntKind.wrap .i64 (n6 + (1 : Int))) (PV.agg (List.set (PV.flds p7) ((IntKind.wrap .i64 (Int.tdiv n6 64))).toNat (PV.int n8)))
        else none
      else none
    else none
  else ret0 p7

theorem f22_w1b0_mem (k : Nat) (retF : PV → R) (NX_w1 : St → R) (n2 : Int) (n6 : Int) (p7 : PV) : exec (f22_E k) f22_cw1 (purgeK (f22_E k) f22_cw1 (loopK NX_w1 (kont (f22_E k) f22_code [1, 1, 0, 1, 0] (endK (f22_E k) Try.f22 [] f22_un retF)))) (f22_hw1_0 n2 n6 p7) = f22_w1b0 (fun y0 => retF y0) (fun n6 p7 => NX_w1 (f22_hw1_0 n2 n6 p7)) n2 n6 p7 := by kernel_rfl

noncomputable def f22_w1b0N (k : Nat) (ret0 : PV → R) (next_w1_0 : Int → PV → R) (n2 : Int) (n6 : Int) (p7 : PV) : R :=
  f22_w1b0 ret0 next_w1_0 n2 n6 p7
theorem f22_w1b0_eq (k : Nat) (retF : PV → R) (NX_w1 : St → R) (n2 : Int) (n6 : Int) (p7 : PV) : exec (f22_E k) f22_cw1 (purgeK (f22_E k) f22_cw1 (loopK NX_w1 (kont (f22_E k) f22_code [1, 1, 0, 1, 0] (endK (f22_E k) Try.f22 [] f22_un retF)))) (f22_hw1_0 n2 n6 p7) = f22_w1b0N k (fun y0 => retF y0) (fun n6 p7 => NX_w1 (f22_hw1_0 n2 n6 p7)) n2 n6 p7 :=
  (f22_w1b0_mem k retF NX_w1 n2 n6 p7)

noncomputable def f22_w1B (k : Nat) (ret0 : PV → R) (n2 : Int) (nx : Int × PV → R) : Int × PV → R := (fun s => f22_w1b0N k ret0 (fun n6 p7 => nx (n6, p7)) n2 s.1 s.2)
noncomputable def f22_w1N (k : Nat) (ret0 : PV → R) (n2 : Int) (n6 : Int) (p7 : PV) : R := loopR (f22_w1B k ret0 n2) k (n6, p7)
theorem f22_w1_eq (k : Nat) (retF : PV → R) (n2 : Int) (n6 : Int) (p7 : PV) : f22_w1A k retF n2 n6 p7 = f22_w1N k (fun y0 => retF y0) n2 n6 p7 :=
  Eq.mp (by kernel_rfl) (loop_sim (E := (f22_E k)) (c := f22_cw1) (K := (kont (f22_E k) f22_code [1, 1, 0, 1, 0] (endK (f22_E k) Try.f22 [] f22_un retF))) (S := Int × PV) (fun s => f22_hw1_0 n2 s.1 s.2) (f22_w1B k (fun y0 => retF y0) n2) (fun NX s => by
    exact Eq.mp (by kernel_rfl) (f22_w1b0_eq k retF NX n2 s.1 s.2)) k (n6, p7))

noncomputable def f22_e (ret0 : PV → R) (w1 : Int → PV → R) (n1 : Int) (n2 : Int) : R :=
  w1 (IntKind.wrap .i64 n1) (PV.agg [(PV.int 0), (PV.int 0), (PV.int 0), (PV.int 0)])

theorem f22_e_mem (k : Nat) (retF : PV → R) (n1 : Int) (n2 : Int) : exec (f22_E k) f22_code (endK (f22_E k) Try.f22 [] f22_un retF) ⟨[.int .u8 n1, .int .u8 n2, .undef, .undef, .undef, .undef, .undef, .undef, .undef, .undef, .undef, .undef, .undef, .undef, .undef, .undef, .undef, .undef, .undef, .undef, .undef, .undef, .undef, .undef, .undef], []⟩ = f22_e (fun y0 => retF y0) (fun n6 p7 => f22_w1A k retF n2 n6 p7) n1 n2 := by kernel_rfl

noncomputable def f22_N (k : Nat) (ret0 : PV → R) (n1 : Int) (n2 : Int) : R :=
  f22_e ret0 (fun n6 p7 => f22_w1N k ret0 n2 n6 p7) n1 n2
theorem f22_eq (k : Nat) (retF : PV → R) (n1 : Int) (n2 : Int) : exec (f22_E k) f22_code (endK (f22_E k) Try.f22 [] f22_un retF) ⟨[.int .u8 n1, .int .u8 n2, .undef, .undef, .undef, .undef, .undef, .undef, .undef, .undef, .undef, .undef, .undef, .undef, .undef, .undef, .undef, .undef, .undef, .undef, .undef, .undef, .undef, .undef, .undef], []⟩ = f22_N k (fun y0 => retF y0) n1 n2 :=
  (f22_e_mem k retF n1 n2).trans (by rw [show (fun n6 p7 => f22_w1A k retF n2 n6 p7) = (fun n6 p7 => f22_w1N k (fun y0 => retF y0) n2 n6 p7) from funext fun n6 => funext fun p7 => f22_w1_eq k retF n2 n6 p7]; rfl)

noncomputable def G22 : Nat → Int → Int → (PV → R) → R
  | 0, _, _, _ => none
  | k + 1, n1, n2, ret0 => f22_N k  ret0 n1 n2
theorem S22 : ∀ k, Snd Try.prog 22 f22_I f22_O (fun x ret => G22 k x.1 x.2 (fun y0 => ret y0))
  | 0 => snd_none
  | k + 1 => snd_step (E := f22_E k ) rfl laidOut noNums orc0_ok (f := 22) (fn := Try.f22) (code := f22_code) Try.func22 (by kernel_rfl) (drawsOk_of laidOut orc0_ok mixed (by kernel_rfl)) f22_un f22_un_ok [] (fun _ => rfl)
      (fun x ret => f22_eq k  ret x.1 x.2)

/- (catchpole/byteset.Set).Or -/
noncomputable def f25_I : PV × PV → List SV × Obs := fun x => ([.val 24 x.1, .val 24 x.2], [])
noncomputable def f25_D : List SV → Obs → Option (PV × PV)
  | [.val 24 p1, .val 24 p2], [] => some (p1, p2)
  | _, _ => none
theorem f25_D_ok (args : List SV) (B : Obs) (x : PV × PV) (h : f25_D args B = some x) : f25_I x = (args, B) := by
  unfold f25_D at h
  split at h
  · injection h with h; subst h; rfl
  · cases h
noncomputable def f25_O : PV → Out := (fun y => ([.val 24 y], []))
noncomputable def f25_un : Out → Option (PV)
  | ([.val 24 y0], []) => some y0
  | _ => none
theorem f25_un_ok (o : Out) (y : PV) (h : f25_un o = some y) : o = f25_O y := by
  unfold f25_un at h
  split at h
  · injection h with h; subst h; rfl
  · cases h
noncomputable def f25_msk : Nat → Option (List Nat) := fun key => bif key == 6 then some [2, 3, 4, 6] else none
noncomputable def f25_C : Oracle := orc0
noncomputable def f25_E (k : Nat) : Env := { P := Try.prog, nilOwn := fun d => false, fldOwn := fun d i => false, ownPar := ownPars, ownRet := false, mask := f25_msk, fuel := k, C := f25_C }
noncomputable def f25_code : Code := Try.f25.body.getD .skip
noncomputable def f25_cw1 : Code := subC f25_code [1, 0, 1, 0, 0]
noncomputable def f25_hw1_0 (p2 : PV) (n4 : Int) (p5 : PV) : St := ⟨[.dead, .dead, .ptr 2 [], .ptr 3 [], .ptr 4 [], .dead, .int .i64 n4, .dead, .dead, .dead, .dead, .dead, .dead, .dead, .dead, .dead, .dead, .dead, .dead], [(2, .box 24 (.val 24 p5)), (3, .box 24 (.val 24 p2)), (4, .box 24 (.val 24 (PV.agg [(PV.int 0), (PV.int 0), (PV.int 0), (PV.int 0)])))]⟩
noncomputable def f25_w1A (k : Nat) (retF : PV → R) (p2 : PV) (n4 : Int) (p5 : PV) : R := loopM (f25_E k) f25_cw1 (kont (f25_E k) f25_code [1, 0, 1, 0] (endK (f25_E k) Try.f25 [] f25_un retF)) k (f25_hw1_0 p2 n4 p5)
noncomputable def f25_w1b0 (ret0 : PV → R) (next_w1_0 : Int → PV → R) (p2 : PV) (n4 : Int) (p5 : PV) : R :=
  bif (decide (n4 < (4 : Int))) then
    bif (true && decide ((0 : Int) ≤ n4) && decide (n4 < 4)) then
      bif (true && decide ((0 : Int) ≤ n4) && decide (n4 < 4)) then
        bif (true && decide ((0 : Int) ≤ n4) && decide (n4 < 4)) then
          let p6 : PV := (PV.agg (List.set (PV.flds p5) (n4).toNat (PV.int (intBit .or .u64 (PV.num (PV.fld p5 (n4).toNat)) (PV.num (PV.fld p2 (n4).toNat))))))
          next_w1_0 (IntKind.wrap .i64 (n4 + (1 : Int))) p6
        else none
      else none
    else none
  else ret0 p5

theorem f25_w1b0_mem (k : Nat) (retF : PV → R) (NX_w1 : St → R) (p2 : PV) (n4 : Int) (p5 : PV) : exec (f25_E k) f25_cw1 (purgeK (f25_E k) f25_cw1 (loopK NX_w1 (kont (f25_E k) f25_code [1, 0, 1, 0] (endK (f25_E k) Try.f25 [] f25_un retF)))) (f25_hw1_0 p2 n4 p5) = f25_w1b0 (fun y0 => retF y0) (fun n4 p5 => NX_w1 (f25_hw1_0 p2 n4 p5)) p2 n4 p5 := by kernel_rfl

noncomputable def f25_w1b0N (k : Nat) (ret0 : PV → R) (next_w1_0 : Int → PV → R) (p2 : PV) (n4 : Int) (p5 : PV) : R :=
  f25_w1b0 ret0 next_w1_0 p2 n4 p5
theorem f25_w1b0_eq (k : Nat) (retF : PV → R) (NX_w1 : St → R) (p2 : PV) (n4 : Int) (p5 : PV) : exec (f25_E k) f25_cw1 (purgeK (f25_E k) f25_cw1 (loopK NX_w1 (kont (f25_E k) f25_code [1, 0, 1, 0] (endK (f25_E k) Try.f25 [] f25_un retF)))) (f25_hw1_0 p2 n4 p5) = f25_w1b0N k (fun y0 => retF y0) (fun n4 p5 => NX_w1 (f25_hw1_0 p2 n4 p5)) p2 n4 p5 :=
  (f25_w1b0_mem k retF NX_w1 p2 n4 p5)

noncomputable def f25_w1B (k : Nat) (ret0 : PV → R) (p2 : PV) (nx : Int × PV → R) : Int × PV → R := (fun s => f25_w1b0N k ret0 (fun n4 p5 => nx (n4, p5)) p2 s.1 s.2)
noncomputable def f25_w1N (k : Nat) (ret0 : PV → R) (p2 : PV) (n4 : Int) (p5 : PV) : R := loopR (f25_w1B k ret0 p2) k (n4, p5)
theorem f25_w1_eq (k : Nat) (retF : PV → R) (p2 : PV) (n4 : Int) (p5 : PV) : f25_w1A k retF p2 n4 p5 = f25_w1N k (fun y0 => retF y0) p2 n4 p5 :=
  Eq.mp (by kernel_rfl) (loop_sim (E := (f25_E k)) (c := f25_cw1) (K := (kont (f25_E k) f25_code [1, 0, 1, 0] (endK (f25_E k) Try.f25 [] f25_un retF))) (S := Int × PV) (fun s => f25_hw1_0 p2 s.1 s.2) (f25_w1B k (fun y0 => retF y0) p2) (fun NX s => by
    exact Eq.mp (by kernel_rfl) (f25_w1b0_eq k retF NX p2 s.1 s.2)) k (n4, p5))

noncomputable def f25_e (ret0 : PV → R) (w1 : Int → PV → R) (p1 : PV) (p2 : PV) : R :=
  w1 0 p1

theorem f25_e_mem (k : Nat) (retF : PV → R) (p1 : PV) (p2 : PV) : exec (f25_E k) f25_code (endK (f25_E k) Try.f25 [] f25_un retF) ⟨[.val 24 p1, .val 24 p2, .undef, .undef, .undef, .undef, .undef, .undef, .undef, .undef, .undef, .undef, .undef, .undef, .undef, .undef, .undef, .undef, .undef], []⟩ = f25_e (fun y0 => retF y0) (fun n4 p5 => f25_w1A k retF p2 n4 p5) p1 p2 := by kernel_rfl

noncomputable def f25_N (k : Nat) (ret0 : PV → R) (p1 : PV) (p2 : PV) : R :=
  f25_e ret0 (fun n4 p5 => f25_w1N k ret0 p2 n4 p5) p1 p2
theorem f25_eq (k : Nat) (retF : PV → R) (p1 : PV) (p2 : PV) : exec (f25_E k) f25_code (endK (f25_E k) Try.f25 [] f25_un retF) ⟨[.val 24 p1, .val 24 p2, .undef, .undef, .undef, .undef, .undef, .undef, .undef, .undef, .undef, .undef, .undef, .undef, .undef, .undef, .undef, .undef, .undef], []⟩ = f25_N k (fun y0 => retF y0) p1 p2 :=
  (f25_e_mem k retF p1 p2).trans (by rw [show (fun n4 p5 => f25_w1A k retF p2 n4 p5) = (fun n4 p5 => f25_w1N k (fun y0 => retF y0) p2 n4 p5) from funext fun n4 => funext fun p5 => f25_w1_eq k retF p2 n4 p5]; rfl)

noncomputable def G25 : Nat → PV → PV → (PV → R) → R
  | 0, _, _, _ => none
  | k + 1, p1, p2, ret0 => f25_N k  ret0 p1 p2
theorem S25 : ∀ k, Snd Try.prog 25 f25_I f25_O (fun x ret => G25 k x.1 x.2 (fun y0 => ret y0))
  | 0 => snd_none
  | k + 1 => snd_step (E := f25_E k ) rfl laidOut noNums orc0_ok (f := 25) (fn := Try.f25) (code := f25_code) Try.func25 (by kernel_rfl) (drawsOk_of laidOut orc0_ok mixed (by kernel_rfl)) f25_un f25_un_ok [] (fun _ => rfl)
      (fun x ret => f25_eq k  ret x.1 x.2)

/- catchpole/byteset.Of -/
noncomputable def f18_I : PV → List SV × Obs := fun x => ([.val 32 x], [])
noncomputable def f18_D : List SV → Obs → Option (PV)
  | [.val 32 p1], [] => some p1
  | _, _ => none
theorem f18_D_ok (args : List SV) (B : Obs) (x : PV) (h : f18_D args B = some x) : f18_I x = (args, B) := by
  unfold f18_D at h
  split at h
  · injection h with h; subst h; rfl
  · cases h
noncomputable def f18_O : PV → Out := (fun y => ([.val 24 y], []))
noncomputable def f18_un : Out → Option (PV)
  | ([.val 24 y0], []) => some y0
  | _ => none
theorem f18_un_ok (o : Out) (y : PV) (h : f18_un o = some y) : o = f18_O y := by
  unfold f18_un at h
  split at h
  · injection h with h; subst h; rfl
  · cases h
noncomputable def f18_msk : Nat → Option (List Nat) := fun key => bif key == 9 then some [2, 3, 6, 7, 8] else none
noncomputable def f18_C : Oracle := orc0
noncomputable def f18_E (k : Nat) : Env := { P := Try.prog, nilOwn := fun d => false, fldOwn := fun d i => false, ownPar := ownPars, ownRet := false, mask := f18_msk, fuel := k, C := f18_C }
noncomputable def f18_code : Code := Try.f18.body.getD .skip
noncomputable def f18_cw1 : Code := subC f18_code [1, 1, 0, 1, 0, 0]
noncomputable def f18_hw1_0 (p1 : PV) (n5 : Int) (p6 : PV) : St := ⟨[.dead, .dead, .ptr 2 [], .ptr 3 [], .dead, .dead, .val 32 p1, .int .i64 (List.length (PV.els p1) : Int), .int .i64 n5, .dead, .dead, .dead, .dead, .dead, .dead, .dead, .dead, .dead, .dead, .dead, .dead, .dead, .dead], [(2, .box 24 (.val 24 (PV.agg [(PV.int 0), (PV.int 0), (PV.int 0), (PV.int 0)]))), (3, .box 24 (.val 24 p6))]⟩
noncomputable def f18_w1A (k : Nat) (retF : PV → R) (p1 : PV) (n5 : Int) (p6 : PV) : R := loopM (f18_E k) f18_cw1 (kont (f18_E k) f18_code [1, 1, 0, 1, 0] (endK (f18_E k) Try.f18 [] f18_un retF)) k (f18_hw1_0 p1 n5 p6)
noncomputable def f18_w1b0 (ret0 : PV → R) (next_w1_0 : Int → PV → R) (p1 : PV) (n5 : Int) (p6 : PV) : R :=
  bif (decide (n5 < (List.length (PV.els p1) : Int))) then
    bif (true && decide ((0 : Int) ≤ n5) && decide (n5 < (List.length (PV.els p1) : Int))) then
      bif (true && decide ((0 : Int) ≤ (IntKind.wrap .u8 (Int.tdiv (PV.num (List.getD (PV.els p1) (n5).toNat PV.nil)) 64))) && decide ((IntKind.wrap .u8 (Int.tdiv (PV.num (List.getD (PV.els p1) (n5).toNat PV.nil)) 64)) < 4)) then
        let n7 : Int := (PV.num (PV.fld p6 ((IntKind.wrap .u8 (Int.tdiv (PV.num (List.getD (PV.els p1) (n5).toNat PV.nil)) 64))).toNat))
        bif (decide ((0 : Int) ≤ (Int.tmod (PV.num (List.getD (PV.els p1) (n5).toNat PV.nil)) 64))) then
          let n8 : Int := (IntKind.wrap .u64 ((1 : Int) * 2 ^ (min ((Int.tmod (PV.num (List.getD (PV.els p1) (n5).toNat PV.nil)) 64)).toNat 64)))
          bif (true && decide ((0 : Int) ≤ (IntKind.wrap .u8 (Int.tdiv (PV.num (List.getD (PV.els p1) (n5).toNat PV.nil)) 64))) && decide ((IntKind.wrap .u8 (Int.tdiv (PV.num (List.getD (PV.els p1) (n5).toNat PV.nil)) 64)) < 4)) then
            let p9 : PV := (PV.agg (List.set (PV.flds p6) ((IntKind.wrap .u8 (Int.tdiv (PV.num (List.getD (PV.els p1) (n5).toNat PV.nil)) 64))).toNat (PV.int (intBit .or .u64 n7 n8))))
            next_w1_0 (IntKind.wrap .i64 (n5 + (1 : Int))) p9
          else none
        else none
      else none
    else none
  else ret0 p6

theorem f18_w1b0_mem (k : Nat) (retF : PV → R) (NX_w1 : St → R) (p1 : PV) (n5 : Int) (p6 : PV) : exec (f18_E k) f18_cw1 (purgeK (f18_E k) f18_cw1 (loopK NX_w1 (kont (f18_E k) f18_code [1, 1, 0, 1, 0] (endK (f18_E k) Try.f18 [] f18_un retF)))) (f18_hw1_0 p1 n5 p6) = f18_w1b0 (fun y0 => retF y0) (fun n5 p6 => NX_w1 (f18_hw1_0 p1 n5 p6)) p1 n5 p6 := by kernel_rfl

noncomputable def f18_w1b0N (k : Nat) (ret0 : PV → R) (next_w1_0 : Int → PV → R) (p1 : PV) (n5 : Int) (p6 : PV) : R :=
  f18_w1b0 ret0 next_w1_0 p1 n5 p6
theorem f18_w1b0_eq (k : Nat) (retF : PV → R) (NX_w1 : St → R) (p1 : PV) (n5 : Int) (p6 : PV) : exec (f18_E k) f18_cw1 (purgeK (f18_E k) f18_cw1 (loopK NX_w1 (kont (f18_E k) f18_code [1, 1, 0, 1, 0] (endK (f18_E k) Try.f18 [] f18_un retF)))) (f18_hw1_0 p1 n5 p6) = f18_w1b0N k (fun y0 => retF y0) (fun n5 p6 => NX_w1 (f18_hw1_0 p1 n5 p6)) p1 n5 p6 :=
  (f18_w1b0_mem k retF NX_w1 p1 n5 p6)

noncomputable def f18_w1B (k : Nat) (ret0 : PV → R) (p1 : PV) (nx : Int × PV → R) : Int × PV → R := (fun s => f18_w1b0N k ret0 (fun n5 p6 => nx (n5, p6)) p1 s.1 s.2)
noncomputable def f18_w1N (k : Nat) (ret0 : PV → R) (p1 : PV) (n5 : Int) (p6 : PV) : R := loopR (f18_w1B k ret0 p1) k (n5, p6)
theorem f18_w1_eq (k : Nat) (retF : PV → R) (p1 : PV) (n5 : Int) (p6 : PV) : f18_w1A k retF p1 n5 p6 = f18_w1N k (fun y0 => retF y0) p1 n5 p6 :=
  Eq.mp (by kernel_rfl) (loop_sim (E := (f18_E k)) (c := f18_cw1) (K := (kont (f18_E k) f18_code [1, 1, 0, 1, 0] (endK (f18_E k) Try.f18 [] f18_un retF))) (S := Int × PV) (fun s => f18_hw1_0 p1 s.1 s.2) (f18_w1B k (fun y0 => retF y0) p1) (fun NX s => by
    exact Eq.mp (by kernel_rfl) (f18_w1b0_eq k retF NX p1 s.1 s.2)) k (n5, p6))

noncomputable def f18_e (ret0 : PV → R) (w1 : Int → PV → R) (p1 : PV) : R :=
  w1 0 (PV.agg [(PV.int 0), (PV.int 0), (PV.int 0), (PV.int 0)])

theorem f18_e_mem (k : Nat) (retF : PV → R) (p1 : PV) : exec (f18_E k) f18_code (endK (f18_E k) Try.f18 [] f18_un retF) ⟨[.val 32 p1, .undef, .undef, .undef, .undef, .undef, .undef, .undef, .undef, .undef, .undef, .undef, .undef, .undef, .undef, .undef, .undef, .undef, .undef, .undef, .undef, .undef, .undef], []⟩ = f18_e (fun y0 => retF y0) (fun n5 p6 => f18_w1A k retF p1 n5 p6) p1 := by kernel_rfl

noncomputable def f18_N (k : Nat) (ret0 : PV → R) (p1 : PV) : R :=
  f18_e ret0 (fun n5 p6 => f18_w1N k ret0 p1 n5 p6) p1
theorem f18_eq (k : Nat) (retF : PV → R) (p1 : PV) : exec (f18_E k) f18_code (endK (f18_E k) Try.f18 [] f18_un retF) ⟨[.val 32 p1, .undef, .undef, .undef, .undef, .undef, .undef, .undef, .undef, .undef, .undef, .undef, .undef, .undef, .undef, .undef, .undef, .undef, .undef, .undef, .undef, .undef, .undef], []⟩ = f18_N k (fun y0 => retF y0) p1 :=
  (f18_e_mem k retF p1).trans (by rw [show (fun n5 p6 => f18_w1A k retF p1 n5 p6) = (fun n5 p6 => f18_w1N k (fun y0 => retF y0) p1 n5 p6) from funext fun n5 => funext fun p6 => f18_w1_eq k retF p1 n5 p6]; rfl)

noncomputable def G18 : Nat → PV → (PV → R) → R
  | 0, _, _ => none
  | k + 1, p1, ret0 => f18_N k  ret0 p1
theorem S18 : ∀ k, Snd Try.prog 18 f18_I f18_O (fun x ret => G18 k x (fun y0 => ret y0))
  | 0 => snd_none
  | k + 1 => snd_step (E := f18_E k ) rfl laidOut noNums orc0_ok (f := 18) (fn := Try.f18) (code := f18_code) Try.func18 (by kernel_rfl) (drawsOk_of laidOut orc0_ok mixed (by kernel_rfl)) f18_un f18_un_ok [] (fun _ => rfl)
      (fun x ret => f18_eq k  ret x)

/- (catchpole/byteset.Set).Not -/
noncomputable def f21_I : PV → List SV × Obs := fun x => ([.val 24 x], [])
noncomputable def f21_D : List SV → Obs → Option (PV)
  | [.val 24 p1], [] => some p1
  | _, _ => none
theorem f21_D_ok (args : List SV) (B : Obs) (x : PV) (h : f21_D args B = some x) : f21_I x = (args, B) := by
  unfold f21_D at h
  split at h
  · injection h with h; subst h; rfl
  · cases h
noncomputable def f21_O : PV → Out := (fun y => ([.val 24 y], []))
noncomputable def f21_un : Out → Option (PV)
  | ([.val 24 y0], []) => some y0
  | _ => none
theorem f21_un_ok (o : Out) (y : PV) (h : f21_un o = some y) : o = f21_O y := by
  unfold f21_un at h
  split at h
  · injection h with h; subst h; rfl
  · cases h
noncomputable def f21_msk : Nat → Option (List Nat) := fun key => bif key == 6 then some [1, 2, 4] else none
noncomputable def f21_C : Oracle := orc0
noncomputable def f21_E (k : Nat) : Env := { P := Try.prog, nilOwn := fun d => false, fldOwn := fun d i => false, ownPar := ownPars, ownRet := false, mask := f21_msk, fuel := k, C := f21_C }
noncomputable def f21_code : Code := Try.f21.body.getD .skip
noncomputable def f21_cw1 : Code := subC f21_code [1, 0, 1, 0, 0]
noncomputable def f21_hw1_0 (n3 : Int) (p4 : PV) : St := ⟨[.dead, .ptr 1 [], .ptr 2 [], .dead, .int .i64 n3, .dead, .dead, .dead, .dead, .dead, .dead, .dead, .dead, .dead, .dead], [(1, .box 24 (.val 24 p4)), (2, .box 24 (.val 24 (PV.agg [(PV.int 0), (PV.int 0), (PV.int 0), (PV.int 0)])))]⟩
noncomputable def f21_w1A (k : Nat) (retF : PV → R) (n3 : Int) (p4 : PV) : R := loopM (f21_E k) f21_cw1 (kont (f21_E k) f21_code [1, 0, 1, 0] (endK (f21_E k) Try.f21 [] f21_un retF)) k (f21_hw1_0 n3 p4)
noncomputable def f21_w1b0 (ret0 : PV → R) (next_w1_0 : Int → PV → R) (n3 : Int) (p4 : PV) : R :=
  bif (decide (n3 < (4 : Int))) then
    bif (true && decide ((0 : Int) ≤ n3) && decide (n3 < 4)) then
      bif (true && decide ((0 : Int) ≤ n3) && decide (n3 < 4)) then
        let p5 : PV := (PV.agg (List.set (PV.flds p4) (n3).toNat (PV.int (intBit .xor .u64 18446744073709551615 (PV.num (PV.fld p4 (n3).toNat))))))
        next_w1_0 (IntKind.wrap .i64 (n3 + (1 : Int))) p5
      else none
    else none
  else ret0 p4

theorem f21_w1b0_mem (k : Nat) (retF : PV → R) (NX_w1 : St → R) (n3 : Int) (p4 : PV) : exec (f21_E k) f21_cw1 (purgeK (f21_E k) f21_cw1 (loopK NX_w1 (kont (f21_E k) f21_code [1, 0, 1, 0] (endK (f21_E k) Try.f21 [] f21_un retF)))) (f21_hw1_0 n3 p4) = f21_w1b0 (fun y0 => retF y0) (fun n3 p4 => NX_w1 (f21_hw1_0 n3 p4)) n3 p4 := by kernel_rfl

noncomputable def f21_w1b0N (k : Nat) (ret0 : PV → R) (next_w1_0 : Int → PV → R) (n3 : Int) (p4 : PV) : R :=
  f21_w1b0 ret0 next_w1_0 n3 p4
theorem f21_w1b0_eq (k : Nat) (retF : PV → R) (NX_w1 : St → R) (n3 : Int) (p4 : PV) : exec (f21_E k) f21_cw1 (purgeK (f21_E k) f21_cw1 (loopK NX_w1 (kont (f21_E k) f21_code [1, 0, 1, 0] (endK (f21_E k) Try.f21 [] f21_un retF)))) (f21_hw1_0 n3 p4) = f21_w1b0N k (fun y0 => retF y0) (fun n3 p4 => NX_w1 (f21_hw1_0 n3 p4)) n3 p4 :=
  (f21_w1b0_mem k retF NX_w1 n3 p4)

noncomputable def f21_w1B (k : Nat) (ret0 : PV → R) (nx : Int × PV → R) : Int × PV → R := (fun s => f21_w1b0N k ret0 (fun n3 p4 => nx (n3, p4)) s.1 s.2)
noncomputable def f21_w1N (k : Nat) (ret0 : PV → R) (n3 : Int) (p4 : PV) : R := loopR (f21_w1B k ret0) k (n3, p4)
theorem f21_w1_eq (k : Nat) (retF : PV → R) (n3 : Int) (p4 : PV) : f21_w1A k retF n3 p4 = f21_w1N k (fun y0 => retF y0) n3 p4 :=
  Eq.mp (by kernel_rfl) (loop_sim (E := (f21_E k)) (c := f21_cw1) (K := (kont (f21_E k) f21_code [1, 0, 1, 0] (endK (f21_E k) Try.f21 [] f21_un retF))) (S := Int × PV) (fun s => f21_hw1_0 s.1 s.2) (f21_w1B k (fun y0 => retF y0)) (fun NX s => by
    exact Eq.mp (by kernel_rfl) (f21_w1b0_eq k retF NX s.1 s.2)) k (n3, p4))

noncomputable def f21_e (ret0 : PV → R) (w1 : Int → PV → R) (p1 : PV) : R :=
  w1 0 p1

theorem f21_e_mem (k : Nat) (retF : PV → R) (p1 : PV) : exec (f21_E k) f21_code (endK (f21_E k) Try.f21 [] f21_un retF) ⟨[.val 24 p1, .undef, .undef, .undef, .undef, .undef, .undef, .undef, .undef, .undef, .undef, .undef, .undef, .undef, .undef], []⟩ = f21_e (fun y0 => retF y0) (fun n3 p4 => f21_w1A k retF n3 p4) p1 := by kernel_rfl

noncomputable def f21_N (k : Nat) (ret0 : PV → R) (p1 : PV) : R :=
  f21_e ret0 (fun n3 p4 => f21_w1N k ret0 n3 p4) p1
theorem f21_eq (k : Nat) (retF : PV → R) (p1 : PV) : exec (f21_E k) f21_code (endK (f21_E k) Try.f21 [] f21_un retF) ⟨[.val 24 p1, .undef, .undef, .undef, .undef, .undef, .undef, .undef, .undef, .undef, .undef, .undef, .undef, .undef, .undef], []⟩ = f21_N k (fun y0 => retF y0) p1 :=
  (f21_e_mem k retF p1).trans (by rw [show (fun n3 p4 => f21_w1A k retF n3 p4) = (fun n3 p4 => f21_w1N k (fun y0 => retF y0) n3 p4) from funext fun n3 => funext fun p4 => f21_w1_eq k retF n3 p4]; rfl)

noncomputable def G21 : Nat → PV → (PV → R) → R
  | 0, _, _ => none
  | k + 1, p1, ret0 => f21_N k  ret0 p1
theorem S21 : ∀ k, Snd Try.prog 21 f21_I f21_O (fun x ret => G21 k x (fun y0 => ret y0))
  | 0 => snd_none
  | k + 1 => snd_step (E := f21_E k ) rfl laidOut noNums orc0_ok (f := 21) (fn := Try.f21) (code := f21_code) Try.func21 (by kernel_rfl) (drawsOk_of laidOut orc0_ok mixed (by kernel_rfl)) f21_un f21_un_ok [] (fun _ => rfl)
      (fun x ret => f21_eq k  ret x)

/- (catchpole/byteset.Set).And -/
noncomputable def f26_I : PV × PV → List SV × Obs := fun x => ([.val 24 x.1, .val 24 x.2], [])
noncomputable def f26_D : List SV → Obs → Option (PV × PV)
  | [.val 24 p1, .val 24 p2], [] => some (p1, p2)
  | _, _ => none
theorem f26_D_ok (args : List SV) (B : Obs) (x : PV × PV) (h : f26_D args B = some x) : f26_I x = (args, B) := by
  unfold f26_D at h
  split at h
  · injection h with h; subst h; rfl
  · cases h
noncomputable def f26_O : PV → Out := (fun y => ([.val 24 y], []))
noncomputable def f26_un : Out → Option (PV)
  | ([.val 24 y0], []) => some y0
  | _ => none
theorem f26_un_ok (o : Out) (y : PV) (h : f26_un o = some y) : o = f26_O y := by
  unfold f26_un at h
  split at h
  · injection h with h; subst h; rfl
  · cases h
noncomputable def f26_msk : Nat → Option (List Nat) := fun key => bif key == 6 then some [2, 3, 4, 6] else none
noncomputable def f26_C : Oracle := orc0
noncomputable def f26_E (k : Nat) : Env := { P := Try.prog, nilOwn := fun d => false, fldOwn := fun d i => false, ownPar := ownPars, ownRet := false, mask := f26_msk, fuel := k, C := f26_C }
noncomputable def f26_code : Code := Try.f26.body.getD .skip
noncomputable def f26_cw1 : Code := subC f26_code [1, 0, 1, 0, 0]
noncomputable def f26_hw1_0 (p2 : PV) (n4 : Int) (p5 : PV) : St := ⟨[.dead, .dead, .ptr 2 [], .ptr 3 [], .ptr 4 [], .dead, .int .i64 n4, .dead, .dead, .dead, .dead, .dead, .dead, .dead, .dead, .dead, .dead, .dead, .dead], [(2, .box 24 (.val 24 p5)), (3, .box 24 (.val 24 p2)), (4, .box 24 (.val 24 (PV.agg [(PV.int 0), (PV.int 0), (PV.int 0), (PV.int 0)])))]⟩
noncomputable def f26_w1A (k : Nat) (retF : PV → R) (p2 : PV) (n4 : Int) (p5 : PV) : R := loopM (f26_E k) f26_cw1 (kont (f26_E k) f26_code [1, 0, 1, 0] (endK (f26_E k) Try.f26 [] f26_un retF)) k (f26_hw1_0 p2 n4 p5)
noncomputable def f26_w1b0 (ret0 : PV → R) (next_w1_0 : Int → PV → R) (p2 : PV) (n4 : Int) (p5 : PV) : R :=
  bif (decide (n4 < (4 : Int))) then
    bif (true && decide ((0 : Int) ≤ n4) && decide (n4 < 4)) then
      bif (true && decide ((0 : Int) ≤ n4) && decide (n4 < 4)) then
        bif (true && decide ((0 : Int) ≤ n4) && decide (n4 < 4)) then
          let p6 : PV := (PV.agg (List.set (PV.flds p5) (n4).toNat (PV.int (intBit .and .u64 (PV.num (PV.fld p5 (n4).toNat)) (PV.num (PV.fld p2 (n4).toNat))))))
          next_w1_0 (IntKind.wrap .i64 (n4 + (1 : Int))) p6
        else none
      else none
    else none
  else ret0 p5

theorem f26_w1b0_mem (k : Nat) (retF : PV → R) (NX_w1 : St → R) (p2 : PV) (n4 : Int) (p5 : PV) : exec (f26_E k) f26_cw1 (purgeK (f26_E k) f26_cw1 (loopK NX_w1 (kont (f26_E k) f26_code [1, 0, 1, 0] (endK (f26_E k) Try.f26 [] f26_un retF)))) (f26_hw1_0 p2 n4 p5) = f26_w1b0 (fun y0 => retF y0) (fun n4 p5 => NX_w1 (f26_hw1_0 p2 n4 p5)) p2 n4 p5 := by kernel_rfl

noncomputable def f26_w1b0N (k : Nat) (ret0 : PV → R) (next_w1_0 : Int → PV → R) (p2 : PV) (n4 : Int) (p5 : PV) : R :=
  f26_w1b0 ret0 next_w1_0 p2 n4 p5
theorem f26_w1b0_eq (k : Nat) (retF : PV → R) (NX_w1 : St → R) (p2 : PV) (n4 : Int) (p5 : PV) : exec (f26_E k) f26_cw1 (purgeK (f26_E k) f26_cw1 (loopK NX_w1 (kont (f26_E k) f26_code [1, 0, 1, 0] (endK (f26_E k) Try.f26 [] f26_un retF)))) (f26_hw1_0 p2 n4 p5) = f26_w1b0N k (fun y0 => retF y0) (fun n4 p5 => NX_w1 (f26_hw1_0 p2 n4 p5)) p2 n4 p5 :=
  (f26_w1b0_mem k retF NX_w1 p2 n4 p5)

noncomputable def f26_w1B (k : Nat) (ret0 : PV → R) (p2 : PV) (nx : Int × PV → R) : Int × PV → R := (fun s => f26_w1b0N k ret0 (fun n4 p5 => nx (n4, p5)) p2 s.1 s.2)
noncomputable def f26_w1N (k : Nat) (ret0 : PV → R) (p2 : PV) (n4 : Int) (p5 : PV) : R := loopR (f26_w1B k ret0 p2) k (n4, p5)
theorem f26_w1_eq (k : Nat) (retF : PV → R) (p2 : PV) (n4 : Int) (p5 : PV) : f26_w1A k retF p2 n4 p5 = f26_w1N k (fun y0 => retF y0) p2 n4 p5 :=
  Eq.mp (by kernel_rfl) (loop_sim (E := (f26_E k)) (c := f26_cw1) (K := (kont (f26_E k) f26_code [1, 0, 1, 0] (endK (f26_E k) Try.f26 [] f26_un retF))) (S := Int × PV) (fun s => f26_hw1_0 p2 s.1 s.2) (f26_w1B k (fun y0 => retF y0) p2) (fun NX s => by
    exact Eq.mp (by kernel_rfl) (f26_w1b0_eq k retF NX p2 s.1 s.2)) k (n4, p5))

noncomputable def f26_e (ret0 : PV → R) (w1 : Int → PV → R) (p1 : PV) (p2 : PV) : R :=
  w1 0 p1

theorem f26_e_mem (k : Nat) (retF : PV → R) (p1 : PV) (p2 : PV) : exec (f26_E k) f26_code (endK (f26_E k) Try.f26 [] f26_un retF) ⟨[.val 24 p1, .val 24 p2, .undef, .undef, .undef, .undef, .undef, .undef, .undef, .undef, .undef, .undef, .undef, .undef, .undef, .undef, .undef, .undef, .undef], []⟩ = f26_e (fun y0 => retF y0) (fun n4 p5 => f26_w1A k retF p2 n4 p5) p1 p2 := by kernel_rfl

noncomputable def f26_N (k : Nat) (ret0 : PV → R) (p1 : PV) (p2 : PV) : R :=
  f26_e ret0 (fun n4 p5 => f26_w1N k ret0 p2 n4 p5) p1 p2
theorem f26_eq (k : Nat) (retF : PV → R) (p1 : PV) (p2 : PV) : exec (f26_E k) f26_code (endK (f26_E k) Try.f26 [] f26_un retF) ⟨[.val 24 p1, .val 24 p2, .undef, .undef, .undef, .undef, .undef, .undef, .undef, .undef, .undef, .undef, .undef, .undef, .undef, .undef, .undef, .undef, .undef], []⟩ = f26_N k (fun y0 => retF y0) p1 p2 :=
  (f26_e_mem k retF p1 p2).trans (by rw [show (fun n4 p5 => f26_w1A k retF p2 n4 p5) = (fun n4 p5 => f26_w1N k (fun y0 => retF y0) p2 n4 p5) from funext fun n4 => funext fun p5 => f26_w1_eq k retF p2 n4 p5]; rfl)

noncomputable def G26 : Nat → PV → PV → (PV → R) → R
  | 0, _, _, _ => none
  | k + 1, p1, p2, ret0 => f26_N k  ret0 p1 p2
theorem S26 : ∀ k, Snd Try.prog 26 f26_I f26_O (fun x ret => G26 k x.1 x.2 (fun y0 => ret y0))
  | 0 => snd_none
  | k + 1 => snd_step (E := f26_E k ) rfl laidOut noNums orc0_ok (f := 26) (fn := Try.f26) (code := f26_code) Try.func26 (by kernel_rfl) (drawsOk_of laidOut orc0_ok mixed (by kernel_rfl)) f26_un f26_un_ok [] (fun _ => rfl)
      (fun x ret => f26_eq k  ret x.1 x.2)

/- (catchpole/byteset.Set).Minus -/
noncomputable def f27_I : PV × PV → List SV × Obs := fun x => ([.val 24 x.1, .val 24 x.2], [])
noncomputable def f27_D : List SV → Obs → Option (PV × PV)
  | [.val 24 p1, .val 24 p2], [] => some (p1, p2)
  | _, _ => none
theorem f27_D_ok (args : List SV) (B : Obs) (x : PV × PV) (h : f27_D args B = some x) : f27_I x = (args, B) := by
  unfold f27_D at h
  split at h
  · injection h with h; subst h; rfl
  · cases h
noncomputable def f27_O : PV → Out := (fun y => ([.val 24 y], []))
noncomputable def f27_un : Out → Option (PV)
  | ([.val 24 y0], []) => some y0
  | _ => none
theorem f27_un_ok (o : Out) (y : PV) (h : f27_un o = some y) : o = f27_O y := by
  unfold f27_un at h
  split at h
  · injection h with h; subst h; rfl
  · cases h
noncomputable def f27_msk : Nat → Option (List Nat) := fun key =>  none
noncomputable def f27_C (c21 : PV → (PV → R) → R) (c26 : PV → PV → (PV → R) → R) : Oracle := orc 21 f21_D f21_O (fun x ret => c21 x (fun y0 => ret y0)) <| orc 26 f26_D f26_O (fun x ret => c26 x.1 x.2 (fun y0 => ret y0)) <| orc0
noncomputable def f27_E (k : Nat) (c21 : PV → (PV → R) → R) (c26 : PV → PV → (PV → R) → R) : Env := { P := Try.prog, nilOwn := fun d => false, fldOwn := fun d i => false, ownPar := ownPars, ownRet := false, mask := f27_msk, fuel := k, C := f27_C c21 c26 }
noncomputable def f27_code : Code := Try.f27.body.getD .skip
noncomputable def f27_e (c21 : PV → (PV → R) → R) (c26 : PV → PV → (PV → R) → R) (ret0 : PV → R) (p1 : PV) (p2 : PV) : R :=
  c21 p2 fun p3 =>
  c26 p1 p3 fun p4 =>
  ret0 p4

theorem f27_e_mem (k : Nat) (c21 : PV → (PV → R) → R) (c26 : PV → PV → (PV → R) → R) (retF : PV → R) (p1 : PV) (p2 : PV) : exec (f27_E k c21 c26) f27_code (endK (f27_E k c21 c26) Try.f27 [] f27_un retF) ⟨[.val 24 p1, .val 24 p2, .undef, .undef, .undef, .undef, .undef, .undef, .undef], []⟩ = f27_e c21 c26 (fun y0 => retF y0) p1 p2 := by kernel_rfl

noncomputable def f27_N (k : Nat) (c21 : PV → (PV → R) → R) (c26 : PV → PV → (PV → R) → R) (ret0 : PV → R) (p1 : PV) (p2 : PV) : R :=
  f27_e c21 c26 ret0 p1 p2
theorem f27_eq (k : Nat) (c21 : PV → (PV → R) → R) (c26 : PV → PV → (PV → R) → R) (retF : PV → R) (p1 : PV) (p2 : PV) : exec (f27_E k c21 c26) f27_code (endK (f27_E k c21 c26) Try.f27 [] f27_un retF) ⟨[.val 24 p1, .val 24 p2, .undef, .undef, .undef, .undef, .undef, .undef, .undef], []⟩ = f27_N k c21 c26 (fun y0 => retF y0) p1 p2 :=
  (f27_e_mem k c21 c26 retF p1 p2)

noncomputable def G27 : Nat → PV → PV → (PV → R) → R
  | 0, _, _, _ => none
  | k + 1, p1, p2, ret0 => f27_N k (G21 k) (G26 k) ret0 p1 p2
theorem S27 : ∀ k, Snd Try.prog 27 f27_I f27_O (fun x ret => G27 k x.1 x.2 (fun y0 => ret y0))
  | 0 => snd_none
  | k + 1 => snd_step (E := f27_E k (G21 k) (G26 k)) rfl laidOut noNums (orc_ok (S21 k).o f21_D_ok (orc_ok (S26 k).o f26_D_ok orc0_ok)) (f := 27) (fn := Try.f27) (code := f27_code) Try.func27 (by kernel_rfl) (drawsOk_of laidOut (orc_ok (S21 k).o f21_D_ok (orc_ok (S26 k).o f26_D_ok orc0_ok)) mixed (by kernel_rfl)) f27_un f27_un_ok [] (fun _ => rfl)
      (fun x ret => f27_eq k (G21 k) (G26 k) ret x.1 x.2)

/- catchpole/class.classes -/
noncomputable def f66_I : Unit → List SV × Obs := fun x => ([], [])
noncomputable def f66_D : List SV → Obs → Option (Unit)
  | [], [] => some ()
  | _, _ => none
theorem f66_D_ok (args : List SV) (B : Obs) (x : Unit) (h : f66_D args B = some x) : f66_I x = (args, B) := by
  unfold f66_D at h
  split at h
  · injection h with h; subst h; rfl
  · cases h
noncomputable def f66_O : PV → Out := (fun y => ([.val 97 y], []))
noncomputable def f66_un : Out → Option (PV)
  | ([.val 97 y0], []) => some y0
  | _ => none
theorem f66_un_ok (o : Out) (y : PV) (h : f66_un o = some y) : o = f66_O y := by
  unfold f66_un at h
  split at h
  · injection h with h; subst h; rfl
  · cases h
noncomputable def f66_msk : Nat → Option (List Nat) := fun key =>  none
noncomputable def f66_C (c18 : PV → (PV → R) → R) (c22 : Int → Int → (PV → R) → R) (c25 : PV → PV → (PV → R) → R) (c27 : PV → PV → (PV → R) → R) : Oracle := orc 18 f18_D f18_O (fun x ret => c18 x (fun y0 => ret y0)) <| orc 22 f22_D f22_O (fun x ret => c22 x.1 x.2 (fun y0 => ret y0)) <| orc 25 f25_D f25_O (fun x ret => c25 x.1 x.2 (fun y0 => ret y0)) <| orc 27 f27_D f27_O (fun x ret => c27 x.1 x.2 (fun y0 => ret y0)) <| orc0
noncomputable def f66_E (k : Nat) (c18 : PV → (PV → R) → R) (c22 : Int → Int → (PV → R) → R) (c25 : PV → PV → (PV → R) → R) (c27 : PV → PV → (PV → R) → R) : Env := { P := Try.prog, nilOwn := fun d => false, fldOwn := fun d i => false, ownPar := ownPars, ownRet := false, mask := f66_msk, fuel := k, C := f66_C c18 c22 c25 c27 }
noncomputable def f66_code : Code := Try.f66.body.getD .skip
noncomputable def f66_e (c18 : PV → (PV → R) → R) (c22 : Int → Int → (PV → R) → R) (c25 : PV → PV → (PV → R) → R) (c27 : PV → PV → (PV → R) → R) (ret0 : PV → R) : R :=
  c22 65 90 fun p1 =>
  c22 97 122 fun p2 =>
  c22 48 57 fun p3 =>
  c25 p1 p2 fun p4 =>
  c25 p4 p3 fun p5 =>
  c22 33 126 fun p6 =>
  c18 (PV.list [(PV.int 32), (PV.int 9)]) fun p7 =>
  c22 0 31 fun p8 =>
  c18 (PV.list [(PV.int 127)]) fun p9 =>
  c25 p8 p9 fun p10 =>
  c18 (PV.list [(PV.int 32)]) fun p11 =>
  c25 p6 p11 fun p12 =>
  c27 p6 p5 fun p13 =>
  c22 9 13 fun p14 =>
  c25 p7 p14 fun p15 =>
  c22 65 70 fun p16 =>
  c25 p3 p16 fun p17 =>
  c22 97 102 fun p18 =>
  c25 p17 p18 fun p19 =>
  ret0 (PV.list [(PV.agg [(PV.str [97, 108, 110, 117, 109]), p5]), (PV.agg [(PV.str [97, 108, 112, 104, 97]), p4]), (PV.agg [(PV.str [98, 108, 97, 110, 107]), p7]), (PV.agg [(PV.str [99, 110, 116, 114, 108]), p10]), (PV.agg [(PV.str [100, 105, 103, 105, 116]), p3]), (PV.agg [(PV.str [103, 114, 97, 112, 104]), p6]), (PV.agg [(PV.str [108, 111, 119, 101, 114]), p2]), (PV.agg [(PV.str [112, 114, 105, 110, 116]), p12]), (PV.agg [(PV.str [112, 117, 110, 99, 116]), p13]), (PV.agg [(PV.str [115, 112, 97, 99, 101]), p15]), (PV.agg [(PV.str [117, 112, 112, 101, 114]), p1]), (PV.agg [(PV.str [120, 100, 105, 103, 105, 116]), p19])])

theorem f66_e_mem (k : Nat) (c18 : PV → (PV → R) → R) (c22 : Int → Int → (PV → R) → R) (c25 : PV → PV → (PV → R) → R) (c27 : PV → PV → (PV → R) → R) (retF : PV → R) : exec (f66_E k c18 c22 c25 c27) f66_code (endK (f66_E k c18 c22 c25 c27) Try.f66 [] f66_un retF) ⟨[.undef, .undef, .undef, .undef, .undef, .undef, .undef, .undef, .undef, .undef, .undef, .undef, .undef, .undef, .undef, .undef, .undef, .undef, .undef, .undef, .undef, .undef, .undef, .undef, .undef, .undef, .undef, .undef, .undef, .undef, .undef, .undef, .undef, .undef, .undef, .undef, .undef, .undef, .undef, .undef, .undef, .undef, .undef, .undef, .undef, .undef, .undef, .undef, .undef, .undef, .undef, .undef, .undef, .undef, .undef, .undef, .undef, .undef, .undef], []⟩ = f66_e c18 c22 c25 c27 (fun y0 => retF y0) := by kernel_rfl

noncomputable def f66_N (k : Nat) (c18 : PV → (PV → R) → R) (c22 : Int → Int → (PV → R) → R) (c25 : PV → PV → (PV → R) → R) (c27 : PV → PV → (PV → R) → R) (ret0 : PV → R) : R :=
  f66_e c18 c22 c25 c27 ret0
theorem f66_eq (k : Nat) (c18 : PV → (PV → R) → R) (c22 : Int → Int → (PV → R) → R) (c25 : PV → PV → (PV → R) → R) (c27 : PV → PV → (PV → R) → R) (retF : PV → R) : exec (f66_E k c18 c22 c25 c27) f66_code (endK (f66_E k c18 c22 c25 c27) Try.f66 [] f66_un retF) ⟨[.undef, .undef, .undef, .undef, .undef, .undef, .undef, .undef, .undef, .undef, .undef, .undef, .undef, .undef, .undef, .undef, .undef, .undef, .undef, .undef, .undef, .undef, .undef, .undef, .undef, .undef, .undef, .undef, .undef, .undef, .undef, .undef, .undef, .undef, .undef, .undef, .undef, .undef, .undef, .undef, .undef, .undef, .undef, .undef, .undef, .undef, .undef, .undef, .undef, .undef, .undef, .undef, .undef, .undef, .undef, .undef, .undef, .undef, .undef], []⟩ = f66_N k c18 c22 c25 c27 (fun y0 => retF y0) :=
  (f66_e_mem k c18 c22 c25 c27 retF)

noncomputable def G66 : Nat → (PV → R) → R
  | 0, _ => none
  | k + 1, ret0 => f66_N k (G18 k) (G22 k) (G25 k) (G27 k) ret0 
theorem S66 : ∀ k, Snd Try.prog 66 f66_I f66_O (fun x ret => G66 k (fun y0 => ret y0))
  | 0 => snd_none
  | k + 1 => snd_step (E := f66_E k (G18 k) (G22 k) (G25 k) (G27 k)) rfl laidOut noNums (orc_ok (S18 k).o f18_D_ok (orc_ok (S22 k).o f22_D_ok (orc_ok (S25 k).o f25_D_ok (orc_ok (S27 k).o f27_D_ok orc0_ok)))) (f := 66) (fn := Try.f66) (code := f66_code) Try.func66 (by kernel_rfl) (drawsOk_of laidOut (orc_ok (S18 k).o f18_D_ok (orc_ok (S22 k).o f22_D_ok (orc_ok (S25 k).o f25_D_ok (orc_ok (S27 k).o f27_D_ok orc0_ok)))) mixed (by kernel_rfl)) f66_un f66_un_ok [] (fun _ => rfl)
      (fun x ret => f66_eq k (G18 k) (G22 k) (G25 k) (G27 k) ret)

/- catchpole/class.Named$1 -/
noncomputable def f68_I : PV × (List Int) → List SV × Obs := fun x => ([.val 101 x.1, .ptr 4000000 []], [(4000000, .box 9 (.str x.2))])
noncomputable def f68_D : List SV → Obs → Option (PV × (List Int))
  | [.val 101 p1, .ptr 4000000 []], [(4000000, .box 9 (.str s2))] => some (p1, s2)
  | _, _ => none
theorem f68_D_ok (args : List SV) (B : Obs) (x : PV × (List Int)) (h : f68_D args B = some x) : f68_I x = (args, B) := by
  unfold f68_D at h
  split at h
  · injection h with h; subst h; rfl
  · cases h
noncomputable def f68_O : Bool × (List Int) → Out := (fun y => ([.bool y.1], [(4000000, .box 9 (.str y.2))]))
noncomputable def f68_un : Out → Option (Bool × (List Int))
  | ([.bool y0], [(4000000, .box 9 (.str y1))]) => some (y0, y1)
  | _ => none
theorem f68_un_ok (o : Out) (y : Bool × (List Int)) (h : f68_un o = some y) : o = f68_O y := by
  unfold f68_un at h
  split at h
  · injection h with h; subst h; rfl
  · cases h
noncomputable def f68_msk : Nat → Option (List Nat) := fun key =>  none
noncomputable def f68_C : Oracle := orc0
noncomputable def f68_E (k : Nat) : Env := { P := Try.prog, nilOwn := fun d => false, fldOwn := fun d i => false, ownPar := ownPars, ownRet := false, mask := f68_msk, fuel := k, C := f68_C }
noncomputable def f68_code : Code := Try.f68.body.getD .skip
noncomputable def f68_e (ret0 : Bool → (List Int) → R) (p1 : PV) (s2 : List Int) : R :=
  ret0 (decide (((PV.chars (PV.fld p1 0)) : List Int) = s2)) s2

theorem f68_e_mem (k : Nat) (retF : Bool × (List Int) → R) (p1 : PV) (s2 : List Int) : exec (f68_E k) f68_code (endK (f68_E k) Try.f68 [4000000] f68_un retF) ⟨[.val 101 p1, .ptr 4000000 [], .undef, .undef, .undef, .undef, .undef, .undef], [(4000000, .box 9 (.str s2))]⟩ = f68_e (fun y0 y1 => retF (y0, y1)) p1 s2 := by kernel_rfl

noncomputable def f68_N (k : Nat) (ret0 : Bool → (List Int) → R) (p1 : PV) (s2 : List Int) : R :=
  f68_e ret0 p1 s2
theorem f68_eq (k : Nat) (retF : Bool × (List Int) → R) (p1 : PV) (s2 : List Int) : exec (f68_E k) f68_code (endK (f68_E k) Try.f68 [4000000] f68_un retF) ⟨[.val 101 p1, .ptr 4000000 [], .undef, .undef, .undef, .undef, .undef, .undef], [(4000000, .box 9 (.str s2))]⟩ = f68_N k (fun y0 y1 => retF (y0, y1)) p1 s2 :=
  (f68_e_mem k retF p1 s2)

noncomputable def G68 : Nat → PV → (List Int) → (Bool → (List Int) → R) → R
  | 0, _, _, _ => none
  | k + 1, p1, s2, ret0 => f68_N k  ret0 p1 s2
theorem S68 : ∀ k, Snd Try.prog 68 f68_I f68_O (fun x ret => G68 k x.1 x.2 (fun y0 y1 => ret (y0, y1)))
  | 0 => snd_none
  | k + 1 => snd_step (E := f68_E k ) rfl laidOut noNums orc0_ok (f := 68) (fn := Try.f68) (code := f68_code) Try.func68 (by kernel_rfl) (drawsOk_of laidOut orc0_ok mixed (by kernel_rfl)) f68_un f68_un_ok [4000000] (fun _ => rfl)
      (fun x ret => f68_eq k  ret x.1 x.2)

/- slices.IndexFunc[[]catchpole/class.named,catchpole/class.named] -/
noncomputable def f67_I : PV × (List Int) → List SV × Obs := fun x => ([.val 97 x.1, .fn 68 [.ptr 4001000 []]], [(4001000, .box 9 (.str x.2))])
noncomputable def f67_D : List SV → Obs → Option (PV × (List Int))
  | [.val 97 p1, .fn 68 [.ptr 4001000 []]], [(4001000, .box 9 (.str s2))] => some (p1, s2)
  | _, _ => none
theorem f67_D_ok (args : List SV) (B : Obs) (x : PV × (List Int)) (h : f67_D args B = some x) : f67_I x = (args, B) := by
  unfold f67_D at h
  split at h
  · injection h with h; subst h; rfl
  · cases h
noncomputable def f67_O : Int × (List Int) → Out := (fun y => ([.int .i64 y.1], [(4001000, .box 9 (.str y.2))]))
noncomputable def f67_un : Out → Option (Int × (List Int))
  | ([.int .i64 y0], [(4001000, .box 9 (.str y1))]) => some (y0, y1)
  | _ => none
theorem f67_un_ok (o : Out) (y : Int × (List Int)) (h : f67_un o = some y) : o = f67_O y := by
  unfold f67_un at h
  split at h
  · injection h with h; subst h; rfl
  · cases h
noncomputable def f67_msk : Nat → Option (List Nat) := fun key => bif key == 6 then some [0, 1, 7, 8] else none
noncomputable def f67_C (c68 : PV → (List Int) → (Bool → (List Int) → R) → R) : Oracle := orc 68 f68_D f68_O (fun x ret => c68 x.1 x.2 (fun y0 y1 => ret (y0, y1))) <| orc0
noncomputable def f67_E (k : Nat) (c68 : PV → (List Int) → (Bool → (List Int) → R) → R) : Env := { P := Try.prog, nilOwn := fun d => false, fldOwn := fun d i => false, ownPar := ownPars, ownRet := false, mask := f67_msk, fuel := k, C := f67_C c68 }
noncomputable def f67_code : Code := Try.f67.body.getD .skip
noncomputable def f67_cw1 : Code := subC f67_code [1, 0, 1, 0, 0]
noncomputable def f67_hw1_0 (p1 : PV) (n5 : Int) (s6 : List Int) : St := ⟨[.val 97 p1, .fn 68 [.ptr 4001000 []], .dead, .dead, .dead, .dead, .dead, .int .i64 (List.length (PV.els p1) : Int), .int .i64 n5, .dead, .dead, .dead, .dead, .dead, .dead, .dead, .dead, .dead, .dead], [(4001000, .box 9 (.str s6))]⟩
noncomputable def f67_w1A (k : Nat) (c68 : PV → (List Int) → (Bool → (List Int) → R) → R) (retF : Int × (List Int) → R) (p1 : PV) (n5 : Int) (s6 : List Int) : R := loopM (f67_E k c68) f67_cw1 (kont (f67_E k c68) f67_code [1, 0, 1, 0] (endK (f67_E k c68) Try.f67 [4001000] f67_un retF)) k (f67_hw1_0 p1 n5 s6)
noncomputable def f67_w1b0 (c68 : PV → (List Int) → (Bool → (List Int) → R) → R) (ret0 : Int → (List Int) → R) (next_w1_0 : Int → (List Int) → R) (p1 : PV) (n5 : Int) (s6 : List Int) : R :=
  bif (decide (n5 < (List.length (PV.els p1) : Int))) then
    bif (true && decide ((0 : Int) ≤ n5) && decide (n5 < (List.length (PV.els p1) : Int))) then
      c68 (List.getD (PV.els p1) (n5).toNat PV.nil) s6 fun b7 s8 =>
      bif b7 then
        ret0 n5 s8
      else next_w1_0 (IntKind.wrap .i64 (n5 + (1 : Int))) s8
    else none
  else ret0 (-1) s6

theorem f67_w1b0_mem (k : Nat) (c68 : PV → (List Int) → (Bool → (List Int) → R) → R) (retF : Int × (List Int) → R) (NX_w1 : St → R) (p1 : PV) (n5 : Int) (s6 : List Int) : exec (f67_E k c68) f67_cw1 (purgeK (f67_E k c68) f67_cw1 (loopK NX_w1 (kont (f67_E k c68) f67_code [1, 0, 1, 0] (endK (f67_E k c68) Try.f67 [4001000] f67_un retF)))) (f67_hw1_0 p1 n5 s6) = f67_w1b0 c68 (fun y0 y1 => retF (y0, y1)) (fun n5 s6 => NX_w1 (f67_hw1_0 p1 n5 s6)) p1 n5 s6 := by kernel_rfl

noncomputable def f67_w1b0N (k : Nat) (c68 : PV → (List Int) → (Bool → (List Int) → R) → R) (ret0 : Int → (List Int) → R) (next_w1_0 : Int → (List Int) → R) (p1 : PV) (n5 : Int) (s6 : List Int) : R :=
  f67_w1b0 c68 ret0 next_w1_0 p1 n5 s6
theorem f67_w1b0_eq (k : Nat) (c68 : PV → (List Int) → (Bool → (List Int) → R) → R) (retF : Int × (List Int) → R) (NX_w1 : St → R) (p1 : PV) (n5 : Int) (s6 : List Int) : exec (f67_E k c68) f67_cw1 (purgeK (f67_E k c68) f67_cw1 (loopK NX_w1 (kont (f67_E k c68) f67_code [1, 0, 1, 0] (endK (f67_E k c68) Try.f67 [4001000] f67_un retF)))) (f67_hw1_0 p1 n5 s6) = f67_w1b0N k c68 (fun y0 y1 => retF (y0, y1)) (fun n5 s6 => NX_w1 (f67_hw1_0 p1 n5 s6)) p1 n5 s6 :=
  (f67_w1b0_mem k c68 retF NX_w1 p1 n5 s6)

noncomputable def f67_w1B (k : Nat) (c68 : PV → (List Int) → (Bool → (List Int) → R) → R) (ret0 : Int → (List Int) → R) (p1 : PV) (nx : Int × (List Int) → R) : Int × (List Int) → R := (fun s => f67_w1b0N k c68 ret0 (fun n5 s6 => nx (n5, s6)) p1 s.1 s.2)
noncomputable def f67_w1N (k : Nat) (c68 : PV → (List Int) → (Bool → (List Int) → R) → R) (ret0 : Int → (List Int) → R) (p1 : PV) (n5 : Int) (s6 : List Int) : R := loopR (f67_w1B k c68 ret0 p1) k (n5, s6)
theorem f67_w1_eq (k : Nat) (c68 : PV → (List Int) → (Bool → (List Int) → R) → R) (retF : Int × (List Int) → R) (p1 : PV) (n5 : Int) (s6 : List Int) : f67_w1A k c68 retF p1 n5 s6 = f67_w1N k c68 (fun y0 y1 => retF (y0, y1)) p1 n5 s6 :=
  Eq.mp (by kernel_rfl) (loop_sim (E := (f67_E k c68)) (c := f67_cw1) (K := (kont (f67_E k c68) f67_code [1, 0, 1, 0] (endK (f67_E k c68) Try.f67 [4001000] f67_un retF))) (S := Int × (List Int)) (fun s => f67_hw1_0 p1 s.1 s.2) (f67_w1B k c68 (fun y0 y1 => retF (y0, y1)) p1) (fun NX s => by
    exact Eq.mp (by kernel_rfl) (f67_w1b0_eq k c68 retF NX p1 s.1 s.2)) k (n5, s6))

noncomputable def f67_e (c68 : PV → (List Int) → (Bool → (List Int) → R) → R) (ret0 : Int → (List Int) → R) (w1 : Int → (List Int) → R) (p1 : PV) (s2 : List Int) : R :=
  w1 0 s2

theorem f67_e_mem (k : Nat) (c68 : PV → (List Int) → (Bool → (List Int) → R) → R) (retF : Int × (List Int) → R) (p1 : PV) (s2 : List Int) : exec (f67_E k c68) f67_code (endK (f67_E k c68) Try.f67 [4001000] f67_un retF) ⟨[.val 97 p1, .fn 68 [.ptr 4001000 []], .undef, .undef, .undef, .undef, .undef, .undef, .undef, .undef, .undef, .undef, .undef, .undef, .undef, .undef, .undef, .undef, .undef], [(4001000, .box 9 (.str s2))]⟩ = f67_e c68 (fun y0 y1 => retF (y0, y1)) (fun n5 s6 => f67_w1A k c68 retF p1 n5 s6) p1 s2 := by kernel_rfl

noncomputable def f67_N (k : Nat) (c68 : PV → (List Int) → (Bool → (List Int) → R) → R) (ret0 : Int → (List Int) → R) (p1 : PV) (s2 : List Int) : R :=
  f67_e c68 ret0 (fun n5 s6 => f67_w1N k c68 ret0 p1 n5 s6) p1 s2
theorem f67_eq (k : Nat) (c68 : PV → (List Int) → (Bool → (List Int) → R) → R) (retF : Int × (List Int) → R) (p1 : PV) (s2 : List Int) : exec (f67_E k c68) f67_code (endK (f67_E k c68) Try.f67 [4001000] f67_un retF) ⟨[.val 97 p1, .fn 68 [.ptr 4001000 []], .undef, .undef, .undef, .undef, .undef, .undef, .undef, .undef, .undef, .undef, .undef, .undef, .undef, .undef, .undef, .undef, .undef], [(4001000, .box 9 (.str s2))]⟩ = f67_N k c68 (fun y0 y1 => retF (y0, y1)) p1 s2 :=
  (f67_e_mem k c68 retF p1 s2).trans (by rw [show (fun n5 s6 => f67_w1A k c68 retF p1 n5 s6) = (fun n5 s6 => f67_w1N k c68 (fun y0 y1 => retF (y0, y1)) p1 n5 s6) from funext fun n5 => funext fun s6 => f67_w1_eq k c68 retF p1 n5 s6]; rfl)

noncomputable def G67 : Nat → PV → (List Int) → (Int → (List Int) → R) → R
  | 0, _, _, _ => none
  | k + 1, p1, s2, ret0 => f67_N k (G68 k) ret0 p1 s2
theorem S67 : ∀ k, Snd Try.prog 67 f67_I f67_O (fun x ret => G67 k x.1 x.2 (fun y0 y1 => ret (y0, y1)))
  | 0 => snd_none
  | k + 1 => snd_step (E := f67_E k (G68 k)) rfl laidOut noNums (orc_ok (S68 k).o f68_D_ok orc0_ok) (f := 67) (fn := Try.f67) (code := f67_code) Try.func67 (by kernel_rfl) (drawsOk_of laidOut (orc_ok (S68 k).o f68_D_ok orc0_ok) mixed (by kernel_rfl)) f67_un f67_un_ok [4001000] (fun _ => rfl)
      (fun x ret => f67_eq k (G68 k) ret x.1 x.2)

/- catchpole/class.Named -/
noncomputable def f38_I : (List Int) → List SV × Obs := fun x => ([.str x], [])
noncomputable def f38_D : List SV → Obs → Option ((List Int))
  | [.str s1], [] => some s1
  | _, _ => none
theorem f38_D_ok (args : List SV) (B : Obs) (x : (List Int)) (h : f38_D args B = some x) : f38_I x = (args, B) := by
  unfold f38_D at h
  split at h
  · injection h with h; subst h; rfl
  · cases h
noncomputable def f38_O : PV × Bool → Out := (fun y => ([.val 24 y.1, .bool y.2], []))
noncomputable def f38_un : Out → Option (PV × Bool)
  | ([.val 24 y0, .bool y1], []) => some (y0, y1)
  | _ => none
theorem f38_un_ok (o : Out) (y : PV × Bool) (h : f38_un o = some y) : o = f38_O y := by
  unfold f38_un at h
  split at h
  · injection h with h; subst h; rfl
  · cases h
noncomputable def f38_msk : Nat → Option (List Nat) := fun key =>  none
noncomputable def f38_C (c66 : (PV → R) → R) (c67 : PV → (List Int) → (Int → (List Int) → R) → R) : Oracle := orc 66 f66_D f66_O (fun x ret => c66 (fun y0 => ret y0)) <| orc 67 f67_D f67_O (fun x ret => c67 x.1 x.2 (fun y0 y1 => ret (y0, y1))) <| orc0
noncomputable def f38_E (k : Nat) (c66 : (PV → R) → R) (c67 : PV → (List Int) → (Int → (List Int) → R) → R) : Env := { P := Try.prog, nilOwn := fun d => false, fldOwn := fun d i => false, ownPar := ownPars, ownRet := false, mask := f38_msk, fuel := k, C := f38_C c66 c67 }
noncomputable def f38_code : Code := Try.f38.body.getD .skip
noncomputable def f38_e (c66 : (PV → R) → R) (c67 : PV → (List Int) → (Int → (List Int) → R) → R) (ret0 : PV → Bool → R) (s1 : List Int) : R :=
  c66 fun p2 =>
  c67 p2 s1 fun n3 s4 =>
  bif (decide (n3 < (0 : Int))) then
    ret0 (PV.agg [(PV.int 0), (PV.int 0), (PV.int 0), (PV.int 0)]) false
  else bif (true && decide ((0 : Int) ≤ n3) && decide (n3 < (List.length (PV.els p2) : Int))) then
    ret0 (PV.fld (List.getD (PV.els p2) (n3).toNat PV.nil) 1) true
  else none

theorem f38_e_mem (k : Nat) (c66 : (PV → R) → R) (c67 : PV → (List Int) → (Int → (List Int) → R) → R) (retF : PV × Bool → R) (s1 : List Int) : exec (f38_E k c66 c67) f38_code (endK (f38_E k c66 c67) Try.f38 [] f38_un retF) ⟨[.str s1, .undef, .undef, .undef, .undef, .undef, .undef, .undef, .undef, .undef, .undef, .undef, .undef, .undef, .undef, .undef, .undef, .undef], []⟩ = f38_e c66 c67 (fun y0 y1 => retF (y0, y1)) s1 := by kernel_rfl

noncomputable def f38_N (k : Nat) (c66 : (PV → R) → R) (c67 : PV → (List Int) → (Int → (List Int) → R) → R) (ret0 : PV → Bool → R) (s1 : List Int) : R :=
  f38_e c66 c67 ret0 s1
theorem f38_eq (k : Nat) (c66 : (PV → R) → R) (c67 : PV → (List Int) → (Int → (List Int) → R) → R) (retF : PV × Bool → R) (s1 : List Int) : exec (f38_E k c66 c67) f38_code (endK (f38_E k c66 c67) Try.f38 [] f38_un retF) ⟨[.str s1, .undef, .undef, .undef, .undef, .undef, .undef, .undef, .undef, .undef, .undef, .undef, .undef, .undef, .undef, .undef, .undef, .undef], []⟩ = f38_N k c66 c67 (fun y0 y1 => retF (y0, y1)) s1 :=
  (f38_e_mem k c66 c67 retF s1)

noncomputable def G38 : Nat → (List Int) → (PV → Bool → R) → R
  | 0, _, _ => none
  | k + 1, s1, ret0 => f38_N k (G66 k) (G67 k) ret0 s1
theorem S38 : ∀ k, Snd Try.prog 38 f38_I f38_O (fun x ret => G38 k x (fun y0 y1 => ret (y0, y1)))
  | 0 => snd_none
  | k + 1 => snd_step (E := f38_E k (G66 k) (G67 k)) rfl laidOut noNums (orc_ok (S66 k).o f66_D_ok (orc_ok (S67 k).o f67_D_ok orc0_ok)) (f := 38) (fn := Try.f38) (code := f38_code) Try.func38 (by kernel_rfl) (drawsOk_of laidOut (orc_ok (S66 k).o f66_D_ok (orc_ok (S67 k).o f67_D_ok orc0_ok)) mixed (by kernel_rfl)) f38_un f38_un_ok [] (fun _ => rfl)
      (fun x ret => f38_eq k (G66 k) (G67 k) ret x)

/- math/bits.OnesCount64 -/
noncomputable def f63_I : Int → List SV × Obs := fun x => ([.int .u64 x], [])
noncomputable def f63_D : List SV → Obs → Option (Int)
  | [.int .u64 n1], [] => some n1
  | _, _ => none
theorem f63_D_ok (args : List SV) (B : Obs) (x : Int) (h : f63_D args B = some x) : f63_I x = (args, B) := by
  unfold f63_D at h
  split at h
  · injection h with h; subst h; rfl
  · cases h
noncomputable def f63_O : Int → Out := (fun y => ([.int .i64 y], []))
noncomputable def f63_un : Out → Option (Int)
  | ([.int .i64 y0], []) => some y0
  | _ => none
theorem f63_un_ok (o : Out) (y : Int) (h : f63_un o = some y) : o = f63_O y := by
  unfold f63_un at h
  split at h
  · injection h with h; subst h; rfl
  · cases h
noncomputable def f63_msk : Nat → Option (List Nat) := fun key =>  none
noncomputable def f63_C : Oracle := orc0
noncomputable def f63_E (k : Nat) : Env := { P := Try.prog, nilOwn := fun d => false, fldOwn := fun d i => false, ownPar := ownPars, ownRet := false, mask := f63_msk, fuel := k, C := f63_C }
noncomputable def f63_code : Code := Try.f63.body.getD .skip
noncomputable def f63_e (ret0 : Int → R) (n1 : Int) : R :=
  let n2 : Int := (IntKind.wrap .u64 ((intBit .and .u64 (Int.fdiv n1 (2 ^ (min ((1 : Int)).toNat 64))) 6148914691236517205) + (intBit .and .u64 n1 6148914691236517205)))
  let n3 : Int := (IntKind.wrap .u64 ((intBit .and .u64 (Int.fdiv n2 (2 ^ (min ((2 : Int)).toNat 64))) 3689348814741910323) + (intBit .and .u64 n2 3689348814741910323)))
  let n4 : Int := (intBit .and .u64 (IntKind.wrap .u64 ((Int.fdiv n3 (2 ^ (min ((4 : Int)).toNat 64))) + n3)) 1085102592571150095)
  let n5 : Int := (Int.fdiv (IntKind.wrap .u64 (n4 + (Int.fdiv n4 (2 ^ (min ((8 : Int)).toNat 64))))) (2 ^ (min ((16 : Int)).toNat 64)))
  let n6 : Int := (Int.fdiv (IntKind.wrap .u64 ((IntKind.wrap .u64 (n4 + (Int.fdiv n4 (2 ^ (min ((8 : Int)).toNat 64))))) + n5)) (2 ^ (min ((32 : Int)).toNat 64)))
  let n7 : Int := (IntKind.wrap .u64 ((IntKind.wrap .u64 ((IntKind.wrap .u64 (n4 + (Int.fdiv n4 (2 ^ (min ((8 : Int)).toNat 64))))) + n5)) + n6))
  ret0 (intBit .and .i64 (IntKind.wrap .i64 n7) 127)

theorem f63_e_mem (k : Nat) (retF : Int → R) (n1 : Int) : exec (f63_E k) f63_code (endK (f63_E k) Try.f63 [] f63_un retF) ⟨[.int .u64 n1, .undef, .undef, .undef, .undef, .undef, .undef, .undef, .undef, .undef, .undef, .undef, .undef, .undef, .undef, .undef, .undef, .undef, .undef, .undef, .undef, .undef, .undef, .undef, .undef, .undef, .undef, .undef, .undef, .undef, .undef, .undef, .undef, .undef, .undef], []⟩ = f63_e (fun y0 => retF y0) n1 := by kernel_rfl

noncomputable def f63_N (k : Nat) (ret0 : Int → R) (n1 : Int) : R :=
  f63_e ret0 n1
theorem f63_eq (k : Nat) (retF : Int → R) (n1 : Int) : exec (f63_E k) f63_code (endK (f63_E k) Try.f63 [] f63_un retF) ⟨[.int .u64 n1, .undef, .undef, .undef, .undef, .undef, .undef, .undef, .undef, .undef, .undef, .undef, .undef, .undef, .undef, .undef, .undef, .undef, .undef, .undef, .undef, .undef, .undef, .undef, .undef, .undef, .undef, .undef, .undef, .undef, .undef, .undef, .undef, .undef, .undef], []⟩ = f63_N k (fun y0 => retF y0) n1 :=
  (f63_e_mem k retF n1)

noncomputable def G63 : Nat → Int → (Int → R) → R
  | 0, _, _ => none
  | k + 1, n1, ret0 => f63_N k  ret0 n1
theorem S63 : ∀ k, Snd Try.prog 63 f63_I f63_O (fun x ret => G63 k x (fun y0 => ret y0))
  | 0 => snd_none
  | k + 1 => snd_step (E := f63_E k ) rfl laidOut noNums orc0_ok (f := 63) (fn := Try.f63) (code := f63_code) Try.func63 (by kernel_rfl) (drawsOk_of laidOut orc0_ok mixed (by kernel_rfl)) f63_un f63_un_ok [] (fun _ => rfl)
      (fun x ret => f63_eq k  ret x)

/- (catchpole/byteset.Set).Len -/
noncomputable def f16_I : PV → List SV × Obs := fun x => ([.val 24 x], [])
noncomputable def f16_D : List SV → Obs → Option (PV)
  | [.val 24 p1], [] => some p1
  | _, _ => none
theorem f16_D_ok (args : List SV) (B : Obs) (x : PV) (h : f16_D args B = some x) : f16_I x = (args, B) := by
  unfold f16_D at h
  split at h
  · injection h with h; subst h; rfl
  · cases h
noncomputable def f16_O : Int → Out := (fun y => ([.int .i64 y], []))
noncomputable def f16_un : Out → Option (Int)
  | ([.int .i64 y0], []) => some y0
  | _ => none
theorem f16_un_ok (o : Out) (y : Int) (h : f16_un o = some y) : o = f16_O y := by
  unfold f16_un at h
  split at h
  · injection h with h; subst h; rfl
  · cases h
noncomputable def f16_msk : Nat → Option (List Nat) := fun key => bif key == 9 then some [3, 6, 7] else none
noncomputable def f16_C (c63 : Int → (Int → R) → R) : Oracle := orc 63 f63_D f63_O (fun x ret => c63 x (fun y0 => ret y0)) <| orc0
noncomputable def f16_E (k : Nat) (c63 : Int → (Int → R) → R) : Env := { P := Try.prog, nilOwn := fun d => false, fldOwn := fun d i => false, ownPar := ownPars, ownRet := false, mask := f16_msk, fuel := k, C := f16_C c63 }
noncomputable def f16_code : Code := Try.f16.body.getD .skip
noncomputable def f16_cw1 : Code := subC f16_code [1, 1, 0, 1, 0, 0]
noncomputable def f16_hw1_0 (p1 : PV) (n3 : Int) (n4 : Int) : St := ⟨[.dead, .dead, .dead, .int .i64 n3, .dead, .dead, .val 24 p1, .int .i64 n4, .dead, .dead, .dead, .dead, .dead, .dead, .dead, .dead], []⟩
noncomputable def f16_w1A (k : Nat) (c63 : Int → (Int → R) → R) (retF : Int → R) (p1 : PV) (n3 : Int) (n4 : Int) : R := loopM (f16_E k c63) f16_cw1 (kont (f16_E k c63) f16_code [1, 1, 0, 1, 0] (endK (f16_E k c63) Try.f16 [] f16_un retF)) k (f16_hw1_0 p1 n3 n4)
noncomputable def f16_w1b0 (c63 : Int → (Int → R) → R) (ret0 : Int → R) (next_w1_0 : Int → Int → R) (p1 : PV) (n3 : Int) (n4 : Int) : R :=
  bif (decide (n4 < (4 : Int))) then
    bif (true && decide ((0 : Int) ≤ n4) && decide (n4 < 4)) then
      c63 (PV.num (PV.fld p1 (n4).toNat)) fun n5 =>
      next_w1_0 (IntKind.wrap .i64 (n3 + n5)) (IntKind.wrap .i64 (n4 + (1 : Int)))
    else none
  else ret0 n3

theorem f16_w1b0_mem (k : Nat) (c63 : Int → (Int → R) → R) (retF : Int → R) (NX_w1 : St → R) (p1 : PV) (n3 : Int) (n4 : Int) : exec (f16_E k c63) f16_cw1 (purgeK (f16_E k c63) f16_cw1 (loopK NX_w1 (kont (f16_E k c63) f16_code [1, 1, 0, 1, 0] (endK (f16_E k c63) Try.f16 [] f16_un retF)))) (f16_hw1_0 p1 n3 n4) = f16_w1b0 c63 (fun y0 => retF y0) (fun n3 n4 => NX_w1 (f16_hw1_0 p1 n3 n4)) p1 n3 n4 := by kernel_rfl

noncomputable def f16_w1b0N (k : Nat) (c63 : Int → (Int → R) → R) (ret0 : Int → R) (next_w1_0 : Int → Int → R) (p1 : PV) (n3 : Int) (n4 : Int) : R :=
  f16_w1b0 c63 ret0 next_w1_0 p1 n3 n4
theorem f16_w1b0_eq (k : Nat) (c63 : Int → (Int → R) → R) (retF : Int → R) (NX_w1 : St → R) (p1 : PV) (n3 : Int) (n4 : Int) : exec (f16_E k c63) f16_cw1 (purgeK (f16_E k c63) f16_cw1 (loopK NX_w1 (kont (f16_E k c63) f16_code [1, 1, 0, 1, 0] (endK (f16_E k c63) Try.f16 [] f16_un retF)))) (f16_hw1_0 p1 n3 n4) = f16_w1b0N k c63 (fun y0 => retF y0) (fun n3 n4 => NX_w1 (f16_hw1_0 p1 n3 n4)) p1 n3 n4 :=
  (f16_w1b0_mem k c63 retF NX_w1 p1 n3 n4)

noncomputable def f16_w1B (k : Nat) (c63 : Int → (Int → R) → R) (ret0 : Int → R) (p1 : PV) (nx : Int × Int → R) : Int × Int → R := (fun s => f16_w1b0N k c63 ret0 (fun n3 n4 => nx (n3, n4)) p1 s.1 s.2)
noncomputable def f16_w1N (k : Nat) (c63 : Int → (Int → R) → R) (ret0 : Int → R) (p1 : PV) (n3 : Int) (n4 : Int) : R := loopR (f16_w1B k c63 ret0 p1) k (n3, n4)
theorem f16_w1_eq (k : Nat) (c63 : Int → (Int → R) → R) (retF : Int → R) (p1 : PV) (n3 : Int) (n4 : Int) : f16_w1A k c63 retF p1 n3 n4 = f16_w1N k c63 (fun y0 => retF y0) p1 n3 n4 :=
  Eq.mp (by kernel_rfl) (loop_sim (E := (f16_E k c63)) (c := f16_cw1) (K := (kont (f16_E k c63) f16_code [1, 1, 0, 1, 0] (endK (f16_E k c63) Try.f16 [] f16_un retF))) (S := Int × Int) (fun s => f16_hw1_0 p1 s.1 s.2) (f16_w1B k c63 (fun y0 => retF y0) p1) (fun NX s => by
    exact Eq.mp (by kernel_rfl) (f16_w1b0_eq k c63 retF NX p1 s.1 s.2)) k (n3, n4))

noncomputable def f16_e (c63 : Int → (Int → R) → R) (ret0 : Int → R) (w1 : Int → Int → R) (p1 : PV) : R :=
  w1 0 0

theorem f16_e_mem (k : Nat) (c63 : Int → (Int → R) → R) (retF : Int → R) (p1 : PV) : exec (f16_E k c63) f16_code (endK (f16_E k c63) Try.f16 [] f16_un retF) ⟨[.val 24 p1, .undef, .undef, .undef, .undef, .undef, .undef, .undef, .undef, .undef, .undef, .undef, .undef, .undef, .undef, .undef], []⟩ = f16_e c63 (fun y0 => retF y0) (fun n3 n4 => f16_w1A k c63 retF p1 n3 n4) p1 := by kernel_rfl

noncomputable def f16_N (k : Nat) (c63 : Int → (Int → R) → R) (ret0 : Int → R) (p1 : PV) : R :=
  f16_e c63 ret0 (fun n3 n4 => f16_w1N k c63 ret0 p1 n3 n4) p1
theorem f16_eq (k : Nat) (c63 : Int → (Int → R) → R) (retF : Int → R) (p1 : PV) : exec (f16_E k c63) f16_code (endK (f16_E k c63) Try.f16 [] f16_un retF) ⟨[.val 24 p1, .undef, .undef, .undef, .undef, .undef, .undef, .undef, .undef, .undef, .undef, .undef, .undef, .undef, .undef, .undef], []⟩ = f16_N k c63 (fun y0 => retF y0) p1 :=
  (f16_e_mem k c63 retF p1).trans (by rw [show (fun n3 n4 => f16_w1A k c63 retF p1 n3 n4) = (fun n3 n4 => f16_w1N k c63 (fun y0 => retF y0) p1 n3 n4) from funext fun n3 => funext fun n4 => f16_w1_eq k c63 retF p1 n3 n4]; rfl)

noncomputable def G16 : Nat → PV → (Int → R) → R
  | 0, _, _ => none
  | k + 1, p1, ret0 => f16_N k (G63 k) ret0 p1
theorem S16 : ∀ k, Snd Try.prog 16 f16_I f16_O (fun x ret => G16 k x (fun y0 => ret y0))
  | 0 => snd_none
  | k + 1 => snd_step (E := f16_E k (G63 k)) rfl laidOut noNums (orc_ok (S63 k).o f63_D_ok orc0_ok) (f := 16) (fn := Try.f16) (code := f16_code) Try.func16 (by kernel_rfl) (drawsOk_of laidOut (orc_ok (S63 k).o f63_D_ok orc0_ok) mixed (by kernel_rfl)) f16_un f16_un_ok [] (fun _ => rfl)
      (fun x ret => f16_eq k (G63 k) ret x)

/- (catchpole/byteset.Set).Has -/
noncomputable def f23_I : PV × Int → List SV × Obs := fun x => ([.val 24 x.1, .int .u8 x.2], [])
noncomputable def f23_D : List SV → Obs → Option (PV × Int)
  | [.val 24 p1, .int .u8 n2], [] => some (p1, n2)
  | _, _ => none
theorem f23_D_ok (args : List SV) (B : Obs) (x : PV × Int) (h : f23_D args B = some x) : f23_I x = (args, B) := by
  unfold f23_D at h
  split at h
  · injection h with h; subst h; rfl
  · cases h
noncomputable def f23_O : Bool → Out := (fun y => ([.bool y], []))
noncomputable def f23_un : Out → Option (Bool)
  | ([.bool y0], []) => some y0
  | _ => none
theorem f23_un_ok (o : Out) (y : Bool) (h : f23_un o = some y) : o = f23_O y := by
  unfold f23_un at h
  split at h
  · injection h with h; subst h; rfl
  · cases h
noncomputable def f23_msk : Nat → Option (List Nat) := fun key =>  none
noncomputable def f23_C : Oracle := orc0
noncomputable def f23_E (k : Nat) : Env := { P := Try.prog, nilOwn := fun d => false, fldOwn := fun d i => false, ownPar := ownPars, ownRet := false, mask := f23_msk, fuel := k, C := f23_C }
noncomputable def f23_code : Code := Try.f23.body.getD .skip
noncomputable def f23_e (ret0 : Bool → R) (p1 : PV) (n2 : Int) : R :=
  bif (true && decide ((0 : Int) ≤ (IntKind.wrap .u8 (Int.tdiv n2 64))) && decide ((IntKind.wrap .u8 (Int.tdiv n2 64)) < 4)) then
    bif (decide ((0 : Int) ≤ (Int.tmod n2 64))) then
      let n3 : Int := (Int.fdiv (PV.num (PV.fld p1 ((IntKind.wrap .u8 (Int.tdiv n2 64))).toNat)) (2 ^ (min ((Int.tmod n2 64)).toNat 64)))
      ret0 (decide ((intBit .and .u64 n3 1) = (1 : Int)))
    else none
  else none

theorem f23_e_mem (k : Nat) (retF : Bool → R) (p1 : PV) (n2 : Int) : exec (f23_E k) f23_code (endK (f23_E k) Try.f23 [] f23_un retF) ⟨[.val 24 p1, .int .u8 n2, .undef, .undef, .undef, .undef, .undef, .undef, .undef, .undef, .undef, .undef, .undef, .undef], []⟩ = f23_e (fun y0 => retF y0) p1 n2 := by kernel_rfl

noncomputable def f23_N (k : Nat) (ret0 : Bool → R) (p1 : PV) (n2 : Int) : R :=
  f23_e ret0 p1 n2
theorem f23_eq (k : Nat) (retF : Bool → R) (p1 : PV) (n2 : Int) : exec (f23_E k) f23_code (endK (f23_E k) Try.f23 [] f23_un retF) ⟨[.val 24 p1, .int .u8 n2, .undef, .undef, .undef, .undef, .undef, .undef, .undef, .undef, .undef, .undef, .undef, .undef], []⟩ = f23_N k (fun y0 => retF y0) p1 n2 :=
  (f23_e_mem k retF p1 n2)

noncomputable def G23 : Nat → PV → Int → (Bool → R) → R
  | 0, _, _, _ => none
  | k + 1, p1, n2, ret0 => f23_N k  ret0 p1 n2
theorem S23 : ∀ k, Snd Try.prog 23 f23_I f23_O (fun x ret => G23 k x.1 x.2 (fun y0 => ret y0))
  | 0 => snd_none
  | k + 1 => snd_step (E := f23_E k ) rfl laidOut noNums orc0_ok (f := 23) (fn := Try.f23) (code := f23_code) Try.func23 (by kernel_rfl) (drawsOk_of laidOut orc0_ok mixed (by kernel_rfl)) f23_un f23_un_ok [] (fun _ => rfl)
      (fun x ret => f23_eq k  ret x.1 x.2)

/- catchpole/class.Names$1 -/
noncomputable def f72_I : PV → List SV × Obs := fun x => ([.val 24 x], [])
noncomputable def f72_D : List SV → Obs → Option (PV)
  | [.val 24 p1], [] => some p1
  | _, _ => none
theorem f72_D_ok (args : List SV) (B : Obs) (x : PV) (h : f72_D args B = some x) : f72_I x = (args, B) := by
  unfold f72_D at h
  split at h
  · injection h with h; subst h; rfl
  · cases h
noncomputable def f72_O : Bool → Out := (fun y => ([.bool y], []))
noncomputable def f72_un : Out → Option (Bool)
  | ([.bool y0], []) => some y0
  | _ => none
theorem f72_un_ok (o : Out) (y : Bool) (h : f72_un o = some y) : o = f72_O y := by
  unfold f72_un at h
  split at h
  · injection h with h; subst h; rfl
  · cases h
noncomputable def f72_msk : Nat → Option (List Nat) := fun key =>  none
noncomputable def f72_C : Oracle := orc0
noncomputable def f72_E (k : Nat) : Env := { P := Try.prog, nilOwn := fun d => false, fldOwn := fun d i => false, ownPar := ownPars, ownRet := false, mask := f72_msk, fuel := k, C := f72_C }
noncomputable def f72_code : Code := Try.f72.body.getD .skip
noncomputable def f72_e (ret0 : Bool → R) (p1 : PV) : R :=
  ret0 true

theorem f72_e_mem (k : Nat) (retF : Bool → R) (p1 : PV) : exec (f72_E k) f72_code (endK (f72_E k) Try.f72 [] f72_un retF) ⟨[.val 24 p1, .undef, .undef], []⟩ = f72_e (fun y0 => retF y0) p1 := by kernel_rfl

noncomputable def f72_N (k : Nat) (ret0 : Bool → R) (p1 : PV) : R :=
  f72_e ret0 p1
theorem f72_eq (k : Nat) (retF : Bool → R) (p1 : PV) : exec (f72_E k) f72_code (endK (f72_E k) Try.f72 [] f72_un retF) ⟨[.val 24 p1, .undef, .undef], []⟩ = f72_N k (fun y0 => retF y0) p1 :=
  (f72_e_mem k retF p1)

noncomputable def G72 : Nat → PV → (Bool → R) → R
  | 0, _, _ => none
  | k + 1, p1, ret0 => f72_N k  ret0 p1
theorem S72 : ∀ k, Snd Try.prog 72 f72_I f72_O (fun x ret => G72 k x (fun y0 => ret y0))
  | 0 => snd_none
  | k + 1 => snd_step (E := f72_E k ) rfl laidOut noNums orc0_ok (f := 72) (fn := Try.f72) (code := f72_code) Try.func72 (by kernel_rfl) (drawsOk_of laidOut orc0_ok mixed (by kernel_rfl)) f72_un f72_un_ok [] (fun _ => rfl)
      (fun x ret => f72_eq k  ret x)

/- catchpole/class.those -/
noncomputable def f69_I : Unit → List SV × Obs := fun x => ([.fn 72 []], [])
noncomputable def f69_D : List SV → Obs → Option (Unit)
  | [.fn 72 []], [] => some ()
  | _, _ => none
theorem f69_D_ok (args : List SV) (B : Obs) (x : Unit) (h : f69_D args B = some x) : f69_I x = (args, B) := by
  unfold f69_D at h
  split at h
  · injection h with h; subst h; rfl
  · cases h
noncomputable def f69_O : PV → Out := (fun y => ([.val 64 y], []))
noncomputable def f69_un : Out → Option (PV)
  | ([.val 64 y0], []) => some y0
  | _ => none
theorem f69_un_ok (o : Out) (y : PV) (h : f69_un o = some y) : o = f69_O y := by
  unfold f69_un at h
  split at h
  · injection h with h; subst h; rfl
  · cases h
noncomputable def f69_msk : Nat → Option (List Nat) := fun key => bif key == 9 then some [0, 3, 6, 7, 8] else none
noncomputable def f69_C (c66 : (PV → R) → R) (c72 : PV → (Bool → R) → R) : Oracle := orc 66 f66_D f66_O (fun x ret => c66 (fun y0 => ret y0)) <| orc 72 f72_D f72_O (fun x ret => c72 x (fun y0 => ret y0)) <| orc0
noncomputable def f69_E (k : Nat) (c66 : (PV → R) → R) (c72 : PV → (Bool → R) → R) : Env := { P := Try.prog, nilOwn := fun d => d == 3, fldOwn := fun d i => false, ownPar := ownPars, ownRet := false, mask := f69_msk, fuel := k, C := f69_C c66 c72 }
noncomputable def f69_code : Code := Try.f69.body.getD .skip
noncomputable def f69_cw1 : Code := subC f69_code [1, 1, 0, 1, 0, 0]
noncomputable def f69_hw1_0 (p1 : PV) (n3 : Int) (l4 : List PV) : St := ⟨[.fn 72 [], .dead, .dead, .own 64 3, .dead, .dead, .val 97 p1, .int .i64 (List.length (PV.els p1) : Int), .int .i64 n3, .dead, .dead, .dead, .dead, .dead, .dead, .dead, .dead, .dead, .dead, .dead, .dead, .dead, .dead], [(3, .row 9 l4)]⟩
noncomputable def f69_w1A (k : Nat) (c66 : (PV → R) → R) (c72 : PV → (Bool → R) → R) (retF : PV → R) (p1 : PV) (n3 : Int) (l4 : List PV) : R := loopM (f69_E k c66 c72) f69_cw1 (kont (f69_E k c66 c72) f69_code [1, 1, 0, 1, 0] (endK (f69_E k c66 c72) Try.f69 [] f69_un retF)) k (f69_hw1_0 p1 n3 l4)
noncomputable def f69_w1b0 (c66 : (PV → R) → R) (c72 : PV → (Bool → R) → R) (ret0 : PV → R) (next_w1_0 : Int → (List PV) → R) (p1 : PV) (n3 : Int) (l4 : List PV) : R :=
  bif (decide (n3 < (List.length (PV.els p1) : Int))) then
    bif (true && decide ((0 : Int) ≤ n3) && decide (n3 < (List.length (PV.els p1) : Int))) then
      c72 (PV.fld (List.getD (PV.els p1) (n3).toNat PV.nil) 1) fun b5 =>
      bif b5 then
        bif (true && roomy (List.length l4 + List.length [(PV.str (PV.chars (PV.fld (List.getD (PV.els p1) (n3).toNat PV.nil) 0)))]) 16) then
          next_w1_0 (IntKind.wrap .i64 (n3 + (1 : Int))) (l4 ++ [(PV.str (PV.chars (PV.fld (List.getD (PV.els p1) (n3).toNat PV.nil) 0)))])
        else none
      else next_w1_0 (IntKind.wrap .i64 (n3 + (1 : Int))) l4
    else none
  else ret0 (PV.list l4)

theorem f69_w1b0_mem (k : Nat) (c66 : (PV → R) → R) (c72 : PV → (Bool → R) → R) (retF : PV → R) (NX_w1 : St → R) (p1 : PV) (n3 : Int) (l4 : List PV) : exec (f69_E k c66 c72) f69_cw1 (purgeK (f69_E k c66 c72) f69_cw1 (loopK NX_w1 (kont (f69_E k c66 c72) f69_code [1, 1, 0, 1, 0] (endK (f69_E k c66 c72) Try.f69 [] f69_un retF)))) (f69_hw1_0 p1 n3 l4) = f69_w1b0 c66 c72 (fun y0 => retF y0) (fun n3 l4 => NX_w1 (f69_hw1_0 p1 n3 l4)) p1 n3 l4 := by kernel_rfl

noncomputable def f69_w1b0N (k : Nat) (c66 : (PV → R) → R) (c72 : PV → (Bool → R) → R) (ret0 : PV → R) (next_w1_0 : Int → (List PV) → R) (p1 : PV) (n3 : Int) (l4 : List PV) : R :=
  f69_w1b0 c66 c72 ret0 next_w1_0 p1 n3 l4
theorem f69_w1b0_eq (k : Nat) (c66 : (PV → R) → R) (c72 : PV → (Bool → R) → R) (retF : PV → R) (NX_w1 : St → R) (p1 : PV) (n3 : Int) (l4 : List PV) : exec (f69_E k c66 c72) f69_cw1 (purgeK (f69_E k c66 c72) f69_cw1 (loopK NX_w1 (kont (f69_E k c66 c72) f69_code [1, 1, 0, 1, 0] (endK (f69_E k c66 c72) Try.f69 [] f69_un retF)))) (f69_hw1_0 p1 n3 l4) = f69_w1b0N k c66 c72 (fun y0 => retF y0) (fun n3 l4 => NX_w1 (f69_hw1_0 p1 n3 l4)) p1 n3 l4 :=
  (f69_w1b0_mem k c66 c72 retF NX_w1 p1 n3 l4)

noncomputable def f69_w1B (k : Nat) (c66 : (PV → R) → R) (c72 : PV → (Bool → R) → R) (ret0 : PV → R) (p1 : PV) (nx : Int × (List PV) → R) : Int × (List PV) → R := (fun s => f69_w1b0N k c66 c72 ret0 (fun n3 l4 => nx (n3, l4)) p1 s.1 s.2)
noncomputable def f69_w1N (k : Nat) (c66 : (PV → R) → R) (c72 : PV → (Bool → R) → R) (ret0 : PV → R) (p1 : PV) (n3 : Int) (l4 : List PV) : R := loopR (f69_w1B k c66 c72 ret0 p1) k (n3, l4)
theorem f69_w1_eq (k : Nat) (c66 : (PV → R) → R) (c72 : PV → (Bool → R) → R) (retF : PV → R) (p1 : PV) (n3 : Int) (l4 : List PV) : f69_w1A k c66 c72 retF p1 n3 l4 = f69_w1N k c66 c72 (fun y0 => retF y0) p1 n3 l4 :=
  Eq.mp (by kernel_rfl) (loop_sim (E := (f69_E k c66 c72)) (c := f69_cw1) (K := (kont (f69_E k c66 c72) f69_code [1, 1, 0, 1, 0] (endK (f69_E k c66 c72) Try.f69 [] f69_un retF))) (S := Int × (List PV)) (fun s => f69_hw1_0 p1 s.1 s.2) (f69_w1B k c66 c72 (fun y0 => retF y0) p1) (fun NX s => by
    exact Eq.mp (by kernel_rfl) (f69_w1b0_eq k c66 c72 retF NX p1 s.1 s.2)) k (n3, l4))

noncomputable def f69_e (c66 : (PV → R) → R) (c72 : PV → (Bool → R) → R) (ret0 : PV → R) (w1 : PV → Int → (List PV) → R) : R :=
  c66 fun p1 =>
  w1 p1 0 []

theorem f69_e_mem (k : Nat) (c66 : (PV → R) → R) (c72 : PV → (Bool → R) → R) (retF : PV → R) : exec (f69_E k c66 c72) f69_code (endK (f69_E k c66 c72) Try.f69 [] f69_un retF) ⟨[.fn 72 [], .undef, .undef, .undef, .undef, .undef, .undef, .undef, .undef, .undef, .undef, .undef, .undef, .undef, .undef, .undef, .undef, .undef, .undef, .undef, .undef, .undef, .undef], []⟩ = f69_e c66 c72 (fun y0 => retF y0) (fun p1 n3 l4 => f69_w1A k c66 c72 retF p1 n3 l4) := by kernel_rfl

noncomputable def f69_N (k : Nat) (c66 : (PV → R) → R) (c72 : PV → (Bool → R) → R) (ret0 : PV → R) : R :=
  f69_e c66 c72 ret0 (fun p1 n3 l4 => f69_w1N k c66 c72 ret0 p1 n3 l4)
theorem f69_eq (k : Nat) (c66 : (PV → R) → R) (c72 : PV → (Bool → R) → R) (retF : PV → R) : exec (f69_E k c66 c72) f69_code (endK (f69_E k c66 c72) Try.f69 [] f69_un retF) ⟨[.fn 72 [], .undef, .undef, .undef, .undef, .undef, .undef, .undef, .undef, .undef, .undef, .undef, .undef, .undef, .undef, .undef, .undef, .undef, .undef, .undef, .undef, .undef, .undef], []⟩ = f69_N k c66 c72 (fun y0 => retF y0) :=
  (f69_e_mem k c66 c72 retF).trans (by rw [show (fun p1 n3 l4 => f69_w1A k c66 c72 retF p1 n3 l4) = (fun p1 n3 l4 => f69_w1N k c66 c72 (fun y0 => retF y0) p1 n3 l4) from funext fun p1 => funext fun n3 => funext fun l4 => f69_w1_eq k c66 c72 retF p1 n3 l4]; rfl)

noncomputable def G69 : Nat → (PV → R) → R
  | 0, _ => none
  | k + 1, ret0 => f69_N k (G66 k) (G72 k) ret0 
theorem S69 : ∀ k, Snd Try.prog 69 f69_I f69_O (fun x ret => G69 k (fun y0 => ret y0))
  | 0 => snd_none
  | k + 1 => snd_step (E := f69_E k (G66 k) (G72 k)) rfl laidOut noNums (orc_ok (S66 k).o f66_D_ok (orc_ok (S72 k).o f72_D_ok orc0_ok)) (f := 69) (fn := Try.f69) (code := f69_code) Try.func69 (by kernel_rfl) (drawsOk_of laidOut (orc_ok (S66 k).o f66_D_ok (orc_ok (S72 k).o f72_D_ok orc0_ok)) mixed (by kernel_rfl)) f69_un f69_un_ok [] (fun _ => rfl)
      (fun x ret => f69_eq k (G66 k) (G72 k) ret)

/- catchpole/class.Names -/
noncomputable def f45_I : Unit → List SV × Obs := fun x => ([], [])
noncomputable def f45_D : List SV → Obs → Option (Unit)
  | [], [] => some ()
  | _, _ => none
theorem f45_D_ok (args : List SV) (B : Obs) (x : Unit) (h : f45_D args B = some x) : f45_I x = (args, B) := by
  unfold f45_D at h
  split at h
  · injection h with h; subst h; rfl
  · cases h
noncomputable def f45_O : PV → Out := (fun y => ([.val 64 y], []))
noncomputable def f45_un : Out → Option (PV)
  | ([.val 64 y0], []) => some y0
  | _ => none
theorem f45_un_ok (o : Out) (y : PV) (h : f45_un o = some y) : o = f45_O y := by
  unfold f45_un at h
  split at h
  · injection h with h; subst h; rfl
  · cases h
noncomputable def f45_msk : Nat → Option (List Nat) := fun key =>  none
noncomputable def f45_C (c69 : (PV → R) → R) : Oracle := orc 69 f69_D f69_O (fun x ret => c69 (fun y0 => ret y0)) <| orc0
noncomputable def f45_E (k : Nat) (c69 : (PV → R) → R) : Env := { P := Try.prog, nilOwn := fun d => false, fldOwn := fun d i => false, ownPar := ownPars, ownRet := false, mask := f45_msk, fuel := k, C := f45_C c69 }
noncomputable def f45_code : Code := Try.f45.body.getD .skip
noncomputable def f45_e (c69 : (PV → R) → R) (ret0 : PV → R) : R :=
  c69 fun p1 =>
  ret0 p1

theorem f45_e_mem (k : Nat) (c69 : (PV → R) → R) (retF : PV → R) : exec (f45_E k c69) f45_code (endK (f45_E k c69) Try.f45 [] f45_un retF) ⟨[.undef, .undef], []⟩ = f45_e c69 (fun y0 => retF y0) := by kernel_rfl

noncomputable def f45_N (k : Nat) (c69 : (PV → R) → R) (ret0 : PV → R) : R :=
  f45_e c69 ret0
theorem f45_eq (k : Nat) (c69 : (PV → R) → R) (retF : PV → R) : exec (f45_E k c69) f45_code (endK (f45_E k c69) Try.f45 [] f45_un retF) ⟨[.undef, .undef], []⟩ = f45_N k c69 (fun y0 => retF y0) :=
  (f45_e_mem k c69 retF)

noncomputable def G45 : Nat → (PV → R) → R
  | 0, _ => none
  | k + 1, ret0 => f45_N k (G69 k) ret0 
theorem S45 : ∀ k, Snd Try.prog 45 f45_I f45_O (fun x ret => G45 k (fun y0 => ret y0))
  | 0 => snd_none
  | k + 1 => snd_step (E := f45_E k (G69 k)) rfl laidOut noNums (orc_ok (S69 k).o f69_D_ok orc0_ok) (f := 45) (fn := Try.f45) (code := f45_code) Try.func45 (by kernel_rfl) (drawsOk_of laidOut (orc_ok (S69 k).o f69_D_ok orc0_ok) mixed (by kernel_rfl)) f45_un f45_un_ok [] (fun _ => rfl)
      (fun x ret => f45_eq k (G69 k) ret)

/- catchpole/catchpolelaw2.awake -/
noncomputable def f37_I : Unit → List SV × Obs := fun x => ([], [])
noncomputable def f37_D : List SV → Obs → Option (Unit)
  | [], [] => some ()
  | _, _ => none
theorem f37_D_ok (args : List SV) (B : Obs) (x : Unit) (h : f37_D args B = some x) : f37_I x = (args, B) := by
  unfold f37_D at h
  split at h
  · injection h with h; subst h; rfl
  · cases h
noncomputable def f37_O : Bool → Out := (fun y => ([.bool y], []))
noncomputable def f37_un : Out → Option (Bool)
  | ([.bool y0], []) => some y0
  | _ => none
theorem f37_un_ok (o : Out) (y : Bool) (h : f37_un o = some y) : o = f37_O y := by
  unfold f37_un at h
  split at h
  · injection h with h; subst h; rfl
  · cases h
noncomputable def f37_msk : Nat → Option (List Nat) := fun key =>  none
noncomputable def f37_C (c16 : PV → (Int → R) → R) (c23 : PV → Int → (Bool → R) → R) (c38 : (List Int) → (PV → Bool → R) → R) (c45 : (PV → R) → R) : Oracle := orc 16 f16_D f16_O (fun x ret => c16 x (fun y0 => ret y0)) <| orc 23 f23_D f23_O (fun x ret => c23 x.1 x.2 (fun y0 => ret y0)) <| orc 38 f38_D f38_O (fun x ret => c38 x (fun y0 y1 => ret (y0, y1))) <| orc 45 f45_D f45_O (fun x ret => c45 (fun y0 => ret y0)) <| orc0
noncomputable def f37_E (k : Nat) (c16 : PV → (Int → R) → R) (c23 : PV → Int → (Bool → R) → R) (c38 : (List Int) → (PV → Bool → R) → R) (c45 : (PV → R) → R) : Env := { P := Try.prog, nilOwn := fun d => false, fldOwn := fun d i => false, ownPar := ownPars, ownRet := false, mask := f37_msk, fuel := k, C := f37_C c16 c23 c38 c45 }
noncomputable def f37_code : Code := Try.f37.body.getD .skip
noncomputable def f37_e (c16 : PV → (Int → R) → R) (c23 : PV → Int → (Bool → R) → R) (c38 : (List Int) → (PV → Bool → R) → R) (c45 : (PV → R) → R) (ret0 : Bool → R) : R :=
  c38 [100, 105, 103, 105, 116] fun p1 b2 =>
  bif (b2 == true) then
    c16 p1 fun n3 =>
    bif ((decide (n3 = (10 : Int))) == true) then
      c23 p1 55 fun b4 =>
      bif (b4 == true) then
        c45 fun p5 =>
        ret0 (decide ((List.length (PV.els p5) : Int) = (12 : Int)))
      else ret0 false
    else ret0 false
  else ret0 false

theorem f37_e_mem (k : Nat) (c16 : PV → (Int → R) → R) (c23 : PV → Int → (Bool → R) → R) (c38 : (List Int) → (PV → Bool → R) → R) (c45 : (PV → R) → R) (retF : Bool → R) : exec (f37_E k c16 c23 c38 c45) f37_code (endK (f37_E k c16 c23 c38 c45) Try.f37 [] f37_un retF) ⟨[.undef, .undef, .undef, .undef, .undef, .undef, .undef, .undef, .undef, .undef, .undef, .undef, .undef, .undef, .undef, .undef, .undef, .undef, .undef, .undef, .undef, .undef], []⟩ = f37_e c16 c23 c38 c45 (fun y0 => retF y0) := by kernel_rfl

noncomputable def f37_N (k : Nat) (c16 : PV → (Int → R) → R) (c23 : PV → Int → (Bool → R) → R) (c38 : (List Int) → (PV → Bool → R) → R) (c45 : (PV → R) → R) (ret0 : Bool → R) : R :=
  f37_e c16 c23 c38 c45 ret0
theorem f37_eq (k : Nat) (c16 : PV → (Int → R) → R) (c23 : PV → Int → (Bool → R) → R) (c38 : (List Int) → (PV → Bool → R) → R) (c45 : (PV → R) → R) (retF : Bool → R) : exec (f37_E k c16 c23 c38 c45) f37_code (endK (f37_E k c16 c23 c38 c45) Try.f37 [] f37_un retF) ⟨[.undef, .undef, .undef, .undef, .undef, .undef, .undef, .undef, .undef, .undef, .undef, .undef, .undef, .undef, .undef, .undef, .undef, .undef, .undef, .undef, .undef, .undef], []⟩ = f37_N k c16 c23 c38 c45 (fun y0 => retF y0) :=
  (f37_e_mem k c16 c23 c38 c45 retF)

noncomputable def G37 : Nat → (Bool → R) → R
  | 0, _ => none
  | k + 1, ret0 => f37_N k (G16 k) (G23 k) (G38 k) (G45 k) ret0 
theorem S37 : ∀ k, Snd Try.prog 37 f37_I f37_O (fun x ret => G37 k (fun y0 => ret y0))
  | 0 => snd_none
  | k + 1 => snd_step (E := f37_E k (G16 k) (G23 k) (G38 k) (G45 k)) rfl laidOut noNums (orc_ok (S16 k).o f16_D_ok (orc_ok (S23 k).o f23_D_ok (orc_ok (S38 k).o f38_D_ok (orc_ok (S45 k).o f45_D_ok orc0_ok)))) (f := 37) (fn := Try.f37) (code := f37_code) Try.func37 (by kernel_rfl) (drawsOk_of laidOut (orc_ok (S16 k).o f16_D_ok (orc_ok (S23 k).o f23_D_ok (orc_ok (S38 k).o f38_D_ok (orc_ok (S45 k).o f45_D_ok orc0_ok)))) mixed (by kernel_rfl)) f37_un f37_un_ok [] (fun _ => rfl)
      (fun x ret => f37_eq k (G16 k) (G23 k) (G38 k) (G45 k) ret)

/- catchpole/catchpoleref1.Range -/
noncomputable def f30_I : Int × Int → List SV × Obs := fun x => ([.int .i64 x.1, .int .i64 x.2], [])
noncomputable def f30_D : List SV → Obs → Option (Int × Int)
  | [.int .i64 n1, .int .i64 n2], [] => some (n1, n2)
  | _, _ => none
theorem f30_D_ok (args : List SV) (B : Obs) (x : Int × Int) (h : f30_D args B = some x) : f30_I x = (args, B) := by
  unfold f30_D at h
  split at h
  · injection h with h; subst h; rfl
  · cases h
noncomputable def f30_O : PV → Out := (fun y => ([.val 45 y], []))
noncomputable def f30_un : Out → Option (PV)
  | ([.val 45 y0], []) => some y0
  | _ => none
theorem f30_un_ok (o : Out) (y : PV) (h : f30_un o = some y) : o = f30_O y := by
  unfold f30_un at h
  split at h
  · injection h with h; subst h; rfl
  · cases h
noncomputable def f30_msk : Nat → Option (List Nat) := fun key => bif key == 9 then some [1, 4, 5, 6] else none
noncomputable def f30_C : Oracle := orc0
noncomputable def f30_E (k : Nat) : Env := { P := Try.prog, nilOwn := fun d => false, fldOwn := fun d i => false, ownPar := ownPars, ownRet := false, mask := f30_msk, fuel := k, C := f30_C }
noncomputable def f30_code : Code := Try.f30.body.getD .skip
noncomputable def f30_cw1 : Code := subC f30_code [1, 1, 0, 1, 0, 0]
noncomputable def f30_hw1_0 (n2 : Int) (n3 : Int) (p4 : PV) : St := ⟨[.dead, .int .i64 n2, .dead, .dead, .ptr 4 [], .ptr 5 [], .int .i64 n3, .dead, .dead, .dead, .dead, .dead, .dead, .dead, .dead, .dead], [(4, .box 45 (.val 45 (PV.agg (List.replicate 256 (PV.bool false))))), (5, .box 45 (.val 45 p4))]⟩
noncomputable def f30_w1A (k : Nat) (retF : PV → R) (n2 : Int) (n3 : Int) (p4 : PV) : R := loopM (f30_E k) f30_cw1 (kont (f30_E k) f30_code [1, 1, 0, 1, 0] (endK (f30_E k) Try.f30 [] f30_un retF)) k (f30_hw1_0 n2 n3 p4)
noncomputable def f30_w1b0 (ret0 : PV → R) (next_w1_0 : Int → PV → R) (n2 : Int) (n3 : Int) (p4 : PV) : R :=
  bif (decide (n3 ≤ n2)) then
    bif (true && decide ((0 : Int) ≤ n3) && decide (n3 < 256)) then
      next_w1_0 (IntKind.wrap .i64 (n3 + (1 : Int))) (PV.agg (List.set (PV.flds p4) (n3).toNat (PV.bool true)))
    else none
  else ret0 p4

theorem f30_w1b0_mem (k : Nat) (retF : PV → R) (NX_w1 : St → R) (n2 : Int) (n3 : Int) (p4 : PV) : exec (f30_E k) f30_cw1 (purgeK (f30_E k) f30_cw1 (loopK NX_w1 (kont (f30_E k) f30_code [1, 1, 0, 1, 0] (endK (f30_E k) Try.f30 [] f30_un retF)))) (f30_hw1_0 n2 n3 p4) = f30_w1b0 (fun y0 => retF y0) (fun n3 p4 => NX_w1 (f30_hw1_0 n2 n3 p4)) n2 n3 p4 := by kernel_rfl

noncomputable def f30_w1b0N (k : Nat) (ret0 : PV → R) (next_w1_0 : Int → PV → R) (n2 : Int) (n3 : Int) (p4 : PV) : R :=
  f30_w1b0 ret0 next_w1_0 n2 n3 p4
theorem f30_w1b0_eq (k : Nat) (retF : PV → R) (NX_w1 : St → R) (n2 : Int) (n3 : Int) (p4 : PV) : exec (f30_E k) f30_cw1 (purgeK (f30_E k) f30_cw1 (loopK NX_w1 (kont (f30_E k) f30_code [1, 1, 0, 1, 0] (endK (f30_E k) Try.f30 [] f30_un retF)))) (f30_hw1_0 n2 n3 p4) = f30_w1b0N k (fun y0 => retF y0) (fun n3 p4 => NX_w1 (f30_hw1_0 n2 n3 p4)) n2 n3 p4 :=
  (f30_w1b0_mem k retF NX_w1 n2 n3 p4)

noncomputable def f30_w1B (k : Nat) (ret0 : PV → R) (n2 : Int) (nx : Int × PV → R) : Int × PV → R := (fun s => f30_w1b0N k ret0 (fun n3 p4 => nx (n3, p4)) n2 s.1 s.2)
noncomputable def f30_w1N (k : Nat) (ret0 : PV → R) (n2 : Int) (n3 : Int) (p4 : PV) : R := loopR (f30_w1B k ret0 n2) k (n3, p4)
theorem f30_w1_eq (k : Nat) (retF : PV → R) (n2 : Int) (n3 : Int) (p4 : PV) : f30_w1A k retF n2 n3 p4 = f30_w1N k (fun y0 => retF y0) n2 n3 p4 :=
  Eq.mp (by kernel_rfl) (loop_sim (E := (f30_E k)) (c := f30_cw1) (K := (kont (f30_E k) f30_code [1, 1, 0, 1, 0] (endK (f30_E k) Try.f30 [] f30_un retF))) (S := Int × PV) (fun s => f30_hw1_0 n2 s.1 s.2) (f30_w1B k (fun y0 => retF y0) n2) (fun NX s => by
    exact Eq.mp (by kernel_rfl) (f30_w1b0_eq k retF NX n2 s.1 s.2)) k (n3, p4))

noncomputable def f30_e (ret0 : PV → R) (w1 : Int → PV → R) (n1 : Int) (n2 : Int) : R :=
  w1 n1 (PV.agg (List.replicate 256 (PV.bool false)))

theorem f30_e_mem (k : Nat) (retF : PV → R) (n1 : Int) (n2 : Int) : exec (f30_E k) f30_code (endK (f30_E k) Try.f30 [] f30_un retF) ⟨[.int .i64 n1, .int .i64 n2, .undef, .undef, .undef, .undef, .undef, .undef, .undef, .undef, .undef, .undef, .undef, .undef, .undef, .undef], []⟩ = f30_e (fun y0 => retF y0) (fun n3 p4 => f30_w1A k retF n2 n3 p4) n1 n2 := by kernel_rfl

noncomputable def f30_N (k : Nat) (ret0 : PV → R) (n1 : Int) (n2 : Int) : R :=
  f30_e ret0 (fun n3 p4 => f30_w1N k ret0 n2 n3 p4) n1 n2
theorem f30_eq (k : Nat) (retF : PV → R) (n1 : Int) (n2 : Int) : exec (f30_E k) f30_code (endK (f30_E k) Try.f30 [] f30_un retF) ⟨[.int .i64 n1, .int .i64 n2, .undef, .undef, .undef, .undef, .undef, .undef, .undef, .undef, .undef, .undef, .undef, .undef, .undef, .undef], []⟩ = f30_N k (fun y0 => retF y0) n1 n2 :=
  (f30_e_mem k retF n1 n2).trans (by rw [show (fun n3 p4 => f30_w1A k retF n2 n3 p4) = (fun n3 p4 => f30_w1N k (fun y0 => retF y0) n2 n3 p4) from funext fun n3 => funext fun p4 => f30_w1_eq k retF n2 n3 p4]; rfl)

noncomputable def G30 : Nat → Int → Int → (PV → R) → R
  | 0, _, _, _ => none
  | k + 1, n1, n2, ret0 => f30_N k  ret0 n1 n2
theorem S30 : ∀ k, Snd Try.prog 30 f30_I f30_O (fun x ret => G30 k x.1 x.2 (fun y0 => ret y0))
  | 0 => snd_none
  | k + 1 => snd_step (E := f30_E k ) rfl laidOut noNums orc0_ok (f := 30) (fn := Try.f30) (code := f30_code) Try.func30 (by kernel_rfl) (drawsOk_of laidOut orc0_ok mixed (by kernel_rfl)) f30_un f30_un_ok [] (fun _ => rfl)
      (fun x ret => f30_eq k  ret x.1 x.2)

/- catchpole/catchpoleref1.Or -/
noncomputable def f31_I : PV × PV → List SV × Obs := fun x => ([.val 45 x.1, .val 45 x.2], [])
noncomputable def f31_D : List SV → Obs → Option (PV × PV)
  | [.val 45 p1, .val 45 p2], [] => some (p1, p2)
  | _, _ => none
theorem f31_D_ok (args : List SV) (B : Obs) (x : PV × PV) (h : f31_D args B = some x) : f31_I x = (args, B) := by
  unfold f31_D at h
  split at h
  · injection h with h; subst h; rfl
  · cases h
noncomputable def f31_O : PV → Out := (fun y => ([.val 45 y], []))
noncomputable def f31_un : Out → Option (PV)
  | ([.val 45 y0], []) => some y0
  | _ => none
theorem f31_un_ok (o : Out) (y : PV) (h : f31_un o = some y) : o = f31_O y := by
  unfold f31_un at h
  split at h
  · injection h with h; subst h; rfl
  · cases h
noncomputable def f31_msk : Nat → Option (List Nat) := fun key => bif key == 6 then some [2, 3, 4, 5] else none
noncomputable def f31_C : Oracle := orc0
noncomputable def f31_E (k : Nat) : Env := { P := Try.prog, nilOwn := fun d => false, fldOwn := fun d i => false, ownPar := ownPars, ownRet := false, mask := f31_msk, fuel := k, C := f31_C }
noncomputable def f31_code : Code := Try.f31.body.getD .skip
noncomputable def f31_cw1 : Code := subC f31_code [1, 0, 1, 0, 0]
noncomputable def f31_hw1_0 (p2 : PV) (n3 : Int) (p4 : PV) : St := ⟨[.dead, .dead, .ptr 2 [], .ptr 3 [], .ptr 4 [], .int .i64 n3, .dead, .dead, .dead, .dead, .dead, .dead, .dead, .dead, .dead, .dead, .dead, .dead, .dead, .dead, .dead], [(2, .box 45 (.val 45 p4)), (3, .box 45 (.val 45 p2)), (4, .box 45 (.val 45 (PV.agg (List.replicate 256 (PV.bool false)))))]⟩
noncomputable def f31_w1A (k : Nat) (retF : PV → R) (p2 : PV) (n3 : Int) (p4 : PV) : R := loopM (f31_E k) f31_cw1 (kont (f31_E k) f31_code [1, 0, 1, 0] (endK (f31_E k) Try.f31 [] f31_un retF)) k (f31_hw1_0 p2 n3 p4)
noncomputable def f31_w1b0 (ret0 : PV → R) (next_w1_0 : Int → PV → R) (p2 : PV) (n3 : Int) (p4 : PV) : R :=
  bif (decide (n3 < (256 : Int))) then
    bif (true && decide ((0 : Int) ≤ n3) && decide (n3 < 256)) then
      bif ((PV.tt (PV.fld p4 (n3).toNat)) == false) then
        bif (true && decide ((0 : Int) ≤ n3) && decide (n3 < 256)) then
          bif (true && decide ((0 : Int) ≤ n3) && decide (n3 < 256)) then
            next_w1_0 (IntKind.wrap .i64 (n3 + (1 : Int))) (PV.agg (List.set (PV.flds p4) (n3).toNat (PV.bool (PV.tt (PV.fld p2 (n3).toNat)))))
          else none
        else none
      else bif (true && decide ((0 : Int) ≤ n3) && decide (n3 < 256)) then
        next_w1_0 (IntKind.wrap .i64 (n3 + (1 : Int))) (PV.agg (List.set (PV.flds p4) (n3).toNat (PV.bool true)))
      else none
    else none
  else ret0 p4

theorem f31_w1b0_mem (k : Nat) (retF : PV → R) (NX_w1 : St → R) (p2 : PV) (n3 : Int) (p4 : PV) : exec (f31_E k) f31_cw1 (purgeK (f31_E k) f31_cw1 (loopK NX_w1 (kont (f31_E k) f31_code [1, 0, 1, 0] (endK (f31_E k) Try.f31 [] f31_un retF)))) (f31_hw1_0 p2 n3 p4) = f31_w1b0 (fun y0 => retF y0) (fun n3 p4 => NX_w1 (f31_hw1_0 p2 n3 p4)) p2 n3 p4 := by kernel_rfl

noncomputable def f31_w1b0N (k : Nat) (ret0 : PV → R) (next_w1_0 : Int → PV → R) (p2 : PV) (n3 : Int) (p4 : PV) : R :=
  f31_w1b0 ret0 next_w1_0 p2 n3 p4
theorem f31_w1b0_eq (k : Nat) (retF : PV → R) (NX_w1 : St → R) (p2 : PV) (n3 : Int) (p4 : PV) : exec (f31_E k) f31_cw1 (purgeK (f31_E k) f31_cw1 (loopK NX_w1 (kont (f31_E k) f31_code [1, 0, 1, 0] (endK (f31_E k) Try.f31 [] f31_un retF)))) (f31_hw1_0 p2 n3 p4) = f31_w1b0N k (fun y0 => retF y0) (fun n3 p4 => NX_w1 (f31_hw1_0 p2 n3 p4)) p2 n3 p4 :=
  (f31_w1b0_mem k retF NX_w1 p2 n3 p4)

noncomputable def f31_w1B (k : Nat) (ret0 : PV → R) (p2 : PV) (nx : Int × PV → R) : Int × PV → R := (fun s => f31_w1b0N k ret0 (fun n3 p4 => nx (n3, p4)) p2 s.1 s.2)
noncomputable def f31_w1N (k : Nat) (ret0 : PV → R) (p2 : PV) (n3 : Int) (p4 : PV) : R := loopR (f31_w1B k ret0 p2) k (n3, p4)
theorem f31_w1_eq (k : Nat) (retF : PV → R) (p2 : PV) (n3 : Int) (p4 : PV) : f31_w1A k retF p2 n3 p4 = f31_w1N k (fun y0 => retF y0) p2 n3 p4 :=
  Eq.mp (by kernel_rfl) (loop_sim (E := (f31_E k)) (c := f31_cw1) (K := (kont (f31_E k) f31_code [1, 0, 1, 0] (endK (f31_E k) Try.f31 [] f31_un retF))) (S := Int × PV) (fun s => f31_hw1_0 p2 s.1 s.2) (f31_w1B k (fun y0 => retF y0) p2) (fun NX s => by
    exact Eq.mp (by kernel_rfl) (f31_w1b0_eq k retF NX p2 s.1 s.2)) k (n3, p4))

noncomputable def f31_e (ret0 : PV → R) (w1 : Int → PV → R) (p1 : PV) (p2 : PV) : R :=
  w1 0 p1

theorem f31_e_mem (k : Nat) (retF : PV → R) (p1 : PV) (p2 : PV) : exec (f31_E k) f31_code (endK (f31_E k) Try.f31 [] f31_un retF) ⟨[.val 45 p1, .val 45 p2, .undef, .undef, .undef, .undef, .undef, .undef, .undef, .undef, .undef, .undef, .undef, .undef, .undef, .undef, .undef, .undef, .undef, .undef, .undef], []⟩ = f31_e (fun y0 => retF y0) (fun n3 p4 => f31_w1A k retF p2 n3 p4) p1 p2 := by kernel_rfl

noncomputable def f31_N (k : Nat) (ret0 : PV → R) (p1 : PV) (p2 : PV) : R :=
  f31_e ret0 (fun n3 p4 => f31_w1N k ret0 p2 n3 p4) p1 p2
theorem f31_eq (k : Nat) (retF : PV → R) (p1 : PV) (p2 : PV) : exec (f31_E k) f31_code (endK (f31_E k) Try.f31 [] f31_un retF) ⟨[.val 45 p1, .val 45 p2, .undef, .undef, .undef, .undef, .undef, .undef, .undef, .undef, .undef, .undef, .undef, .undef, .undef, .undef, .undef, .undef, .undef, .undef, .undef], []⟩ = f31_N k (fun y0 => retF y0) p1 p2 :=
  (f31_e_mem k retF p1 p2).trans (by rw [show (fun n3 p4 => f31_w1A k retF p2 n3 p4) = (fun n3 p4 => f31_w1N k (fun y0 => retF y0) p2 n3 p4) from funext fun n3 => funext fun p4 => f31_w1_eq k retF p2 n3 p4]; rfl)

noncomputable def G31 : Nat → PV → PV → (PV → R) → R
  | 0, _, _, _ => none
  | k + 1, p1, p2, ret0 => f31_N k  ret0 p1 p2
theorem S31 : ∀ k, Snd Try.prog 31 f31_I f31_O (fun x ret => G31 k x.1 x.2 (fun y0 => ret y0))
  | 0 => snd_none
  | k + 1 => snd_step (E := f31_E k ) rfl laidOut noNums orc0_ok (f := 31) (fn := Try.f31) (code := f31_code) Try.func31 (by kernel_rfl) (drawsOk_of laidOut orc0_ok mixed (by kernel_rfl)) f31_un f31_un_ok [] (fun _ => rfl)
      (fun x ret => f31_eq k  ret x.1 x.2)

/- catchpole/catchpoleref1.Of -/
noncomputable def f29_I : PV → List SV × Obs := fun x => ([.val 32 x], [])
noncomputable def f29_D : List SV → Obs → Option (PV)
  | [.val 32 p1], [] => some p1
  | _, _ => none
theorem f29_D_ok (args : List SV) (B : Obs) (x : PV) (h : f29_D args B = some x) : f29_I x = (args, B) := by
  unfold f29_D at h
  split at h
  · injection h with h; subst h; rfl
  · cases h
noncomputable def f29_O : PV → Out := (fun y => ([.val 45 y], []))
noncomputable def f29_un : Out → Option (PV)
  | ([.val 45 y0], []) => some y0
  | _ => none
theorem f29_un_ok (o : Out) (y : PV) (h : f29_un o = some y) : o = f29_O y := by
  unfold f29_un at h
  split at h
  · injection h with h; subst h; rfl
  · cases h
noncomputable def f29_msk : Nat → Option (List Nat) := fun key => bif key == 9 then some [0, 2, 3, 4] else none
noncomputable def f29_C : Oracle := orc0
noncomputable def f29_E (k : Nat) : Env := { P := Try.prog, nilOwn := fun d => false, fldOwn := fun d i => false, ownPar := ownPars, ownRet := false, mask := f29_msk, fuel := k, C := f29_C }
noncomputable def f29_code : Code := Try.f29.body.getD .skip
noncomputable def f29_cw1 : Code := subC f29_code [1, 1, 0, 1, 0, 0]
noncomputable def f29_hw1_0 (p1 : PV) (n3 : Int) (p4 : PV) : St := ⟨[.val 32 p1, .dead, .ptr 2 [], .ptr 3 [], .int .i64 n3, .dead, .dead, .dead, .dead, .dead, .dead, .dead, .dead, .dead, .dead, .dead, .dead], [(2, .box 45 (.val 45 (PV.agg (List.replicate 256 (PV.bool false))))), (3, .box 45 (.val 45 p4))]⟩
noncomputable def f29_w1A (k : Nat) (retF : PV → R) (p1 : PV) (n3 : Int) (p4 : PV) : R := loopM (f29_E k) f29_cw1 (kont (f29_E k) f29_code [1, 1, 0, 1, 0] (endK (f29_E k) Try.f29 [] f29_un retF)) k (f29_hw1_0 p1 n3 p4)
noncomputable def f29_w1b0 (ret0 : PV → R) (next_w1_0 : Int → PV → R) (p1 : PV) (n3 : Int) (p4 : PV) : R :=
  bif (decide (n3 < (List.length (PV.els p1) : Int))) then
    bif (true && decide ((0 : Int) ≤ n3) && decide (n3 < (List.length (PV.els p1) : Int))) then
      bif (true && decide ((0 : Int) ≤ (PV.num (List.getD (PV.els p1) (n3).toNat PV.nil))) && decide ((PV.num (List.getD (PV.els p1) (n3).toNat PV.nil)) < 256)) then
        let p5 : PV := (PV.agg (List.set (PV.flds p4) ((PV.num (List.getD (PV.els p1) (n3).toNat PV.nil))).toNat (PV.bool true)))
        next_w1_0 (IntKind.wrap .i64 (n3 + (1 : Int))) p5
      else none
    else none
  else ret0 p4

theorem f29_w1b0_mem (k : Nat) (retF : PV → R) (NX_w1 : St → R) (p1 : PV) (n3 : Int) (p4 : PV) : exec (f29_E k) f29_cw1 (purgeK (f29_E k) f29_cw1 (loopK NX_w1 (kont (f29_E k) f29_code [1, 1, 0, 1, 0] (endK (f29_E k) Try.f29 [] f29_un retF)))) (f29_hw1_0 p1 n3 p4) = f29_w1b0 (fun y0 => retF y0) (fun n3 p4 => NX_w1 (f29_hw1_0 p1 n3 p4)) p1 n3 p4 := by kernel_rfl

noncomputable def f29_w1b0N (k : Nat) (ret0 : PV → R) (next_w1_0 : Int → PV → R) (p1 : PV) (n3 : Int) (p4 : PV) : R :=
  f29_w1b0 ret0 next_w1_0 p1 n3 p4
theorem f29_w1b0_eq (k : Nat) (retF : PV → R) (NX_w1 : St → R) (p1 : PV) (n3 : Int) (p4 : PV) : exec (f29_E k) f29_cw1 (purgeK (f29_E k) f29_cw1 (loopK NX_w1 (kont (f29_E k) f29_code [1, 1, 0, 1, 0] (endK (f29_E k) Try.f29 [] f29_un retF)))) (f29_hw1_0 p1 n3 p4) = f29_w1b0N k (fun y0 => retF y0) (fun n3 p4 => NX_w1 (f29_hw1_0 p1 n3 p4)) p1 n3 p4 :=
  (f29_w1b0_mem k retF NX_w1 p1 n3 p4)

noncomputable def f29_w1B (k : Nat) (ret0 : PV → R) (p1 : PV) (nx : Int × PV → R) : Int × PV → R := (fun s => f29_w1b0N k ret0 (fun n3 p4 => nx (n3, p4)) p1 s.1 s.2)
noncomputable def f29_w1N (k : Nat) (ret0 : PV → R) (p1 : PV) (n3 : Int) (p4 : PV) : R := loopR (f29_w1B k ret0 p1) k (n3, p4)
theorem f29_w1_eq (k : Nat) (retF : PV → R) (p1 : PV) (n3 : Int) (p4 : PV) : f29_w1A k retF p1 n3 p4 = f29_w1N k (fun y0 => retF y0) p1 n3 p4 :=
  Eq.mp (by kernel_rfl) (loop_sim (E := (f29_E k)) (c := f29_cw1) (K := (kont (f29_E k) f29_code [1, 1, 0, 1, 0] (endK (f29_E k) Try.f29 [] f29_un retF))) (S := Int × PV) (fun s => f29_hw1_0 p1 s.1 s.2) (f29_w1B k (fun y0 => retF y0) p1) (fun NX s => by
    exact Eq.mp (by kernel_rfl) (f29_w1b0_eq k retF NX p1 s.1 s.2)) k (n3, p4))

noncomputable def f29_e (ret0 : PV → R) (w1 : Int → PV → R) (p1 : PV) : R :=
  w1 0 (PV.agg (List.replicate 256 (PV.bool false)))

theorem f29_e_mem (k : Nat) (retF : PV → R) (p1 : PV) : exec (f29_E k) f29_code (endK (f29_E k) Try.f29 [] f29_un retF) ⟨[.val 32 p1, .undef, .undef, .undef, .undef, .undef, .undef, .undef, .undef, .undef, .undef, .undef, .undef, .undef, .undef, .undef, .undef], []⟩ = f29_e (fun y0 => retF y0) (fun n3 p4 => f29_w1A k retF p1 n3 p4) p1 := by kernel_rfl

noncomputable def f29_N (k : Nat) (ret0 : PV → R) (p1 : PV) : R :=
  f29_e ret0 (fun n3 p4 => f29_w1N k ret0 p1 n3 p4) p1
theorem f29_eq (k : Nat) (retF : PV → R) (p1 : PV) : exec (f29_E k) f29_code (endK (f29_E k) Try.f29 [] f29_un retF) ⟨[.val 32 p1, .undef, .undef, .undef, .undef, .undef, .undef, .undef, .undef, .undef, .undef, .undef, .undef, .undef, .undef, .undef, .undef], []⟩ = f29_N k (fun y0 => retF y0) p1 :=
  (f29_e_mem k retF p1).trans (by rw [show (fun n3 p4 => f29_w1A k retF p1 n3 p4) = (fun n3 p4 => f29_w1N k (fun y0 => retF y0) p1 n3 p4) from funext fun n3 => funext fun p4 => f29_w1_eq k retF p1 n3 p4]; rfl)

noncomputable def G29 : Nat → PV → (PV → R) → R
  | 0, _, _ => none
  | k + 1, p1, ret0 => f29_N k  ret0 p1
theorem S29 : ∀ k, Snd Try.prog 29 f29_I f29_O (fun x ret => G29 k x (fun y0 => ret y0))
  | 0 => snd_none
  | k + 1 => snd_step (E := f29_E k ) rfl laidOut noNums orc0_ok (f := 29) (fn := Try.f29) (code := f29_code) Try.func29 (by kernel_rfl) (drawsOk_of laidOut orc0_ok mixed (by kernel_rfl)) f29_un f29_un_ok [] (fun _ => rfl)
      (fun x ret => f29_eq k  ret x)

/- catchpole/catchpoleref1.Not -/
noncomputable def f33_I : PV → List SV × Obs := fun x => ([.val 45 x], [])
noncomputable def f33_D : List SV → Obs → Option (PV)
  | [.val 45 p1], [] => some p1
  | _, _ => none
theorem f33_D_ok (args : List SV) (B : Obs) (x : PV) (h : f33_D args B = some x) : f33_I x = (args, B) := by
  unfold f33_D at h
  split at h
  · injection h with h; subst h; rfl
  · cases h
noncomputable def f33_O : PV → Out := (fun y => ([.val 45 y], []))
noncomputable def f33_un : Out → Option (PV)
  | ([.val 45 y0], []) => some y0
  | _ => none
theorem f33_un_ok (o : Out) (y : PV) (h : f33_un o = some y) : o = f33_O y := by
  unfold f33_un at h
  split at h
  · injection h with h; subst h; rfl
  · cases h
noncomputable def f33_msk : Nat → Option (List Nat) := fun key => bif key == 6 then some [1, 2, 3] else none
noncomputable def f33_C : Oracle := orc0
noncomputable def f33_E (k : Nat) : Env := { P := Try.prog, nilOwn := fun d => false, fldOwn := fun d i => false, ownPar := ownPars, ownRet := false, mask := f33_msk, fuel := k, C := f33_C }
noncomputable def f33_code : Code := Try.f33.body.getD .skip
noncomputable def f33_cw1 : Code := subC f33_code [1, 0, 1, 0, 0]
noncomputable def f33_hw1_0 (n2 : Int) (p3 : PV) : St := ⟨[.dead, .ptr 1 [], .ptr 2 [], .int .i64 n2, .dead, .dead, .dead, .dead, .dead, .dead, .dead, .dead, .dead, .dead, .dead], [(1, .box 45 (.val 45 p3)), (2, .box 45 (.val 45 (PV.agg (List.replicate 256 (PV.bool false)))))]⟩
noncomputable def f33_w1A (k : Nat) (retF : PV → R) (n2 : Int) (p3 : PV) : R := loopM (f33_E k) f33_cw1 (kont (f33_E k) f33_code [1, 0, 1, 0] (endK (f33_E k) Try.f33 [] f33_un retF)) k (f33_hw1_0 n2 p3)
noncomputable def f33_w1b0 (ret0 : PV → R) (next_w1_0 : Int → PV → R) (n2 : Int) (p3 : PV) : R :=
  bif (decide (n2 < (256 : Int))) then
    bif (true && decide ((0 : Int) ≤ n2) && decide (n2 < 256)) then
      bif (true && decide ((0 : Int) ≤ n2) && decide (n2 < 256)) then
        next_w1_0 (IntKind.wrap .i64 (n2 + (1 : Int))) (PV.agg (List.set (PV.flds p3) (n2).toNat (PV.bool (!(PV.tt (PV.fld p3 (n2).toNat))))))
      else none
    else none
  else ret0 p3

theorem f33_w1b0_mem (k : Nat) (retF : PV → R) (NX_w1 : St → R) (n2 : Int) (p3 : PV) : exec (f33_E k) f33_cw1 (purgeK (f33_E k) f33_cw1 (loopK NX_w1 (kont (f33_E k) f33_code [1, 0, 1, 0] (endK (f33_E k) Try.f33 [] f33_un retF)))) (f33_hw1_0 n2 p3) = f33_w1b0 (fun y0 => retF y0) (fun n2 p3 => NX_w1 (f33_hw1_0 n2 p3)) n2 p3 := by kernel_rfl

noncomputable def f33_w1b0N (k : Nat) (ret0 : PV → R) (next_w1_0 : Int → PV → R) (n2 : Int) (p3 : PV) : R :=
  f33_w1b0 ret0 next_w1_0 n2 p3
theorem f33_w1b0_eq (k : Nat) (retF : PV → R) (NX_w1 : St → R) (n2 : Int) (p3 : PV) : exec (f33_E k) f33_cw1 (purgeK (f33_E k) f33_cw1 (loopK NX_w1 (kont (f33_E k) f33_code [1, 0, 1, 0] (endK (f33_E k) Try.f33 [] f33_un retF)))) (f33_hw1_0 n2 p3) = f33_w1b0N k (fun y0 => retF y0) (fun n2 p3 => NX_w1 (f33_hw1_0 n2 p3)) n2 p3 :=
  (f33_w1b0_mem k retF NX_w1 n2 p3)

noncomputable def f33_w1B (k : Nat) (ret0 : PV → R) (nx : Int × PV → R) : Int × PV → R := (fun s => f33_w1b0N k ret0 (fun n2 p3 => nx (n2, p3)) s.1 s.2)
noncomputable def f33_w1N (k : Nat) (ret0 : PV → R) (n2 : Int) (p3 : PV) : R := loopR (f33_w1B k ret0) k (n2, p3)
theorem f33_w1_eq (k : Nat) (retF : PV → R) (n2 : Int) (p3 : PV) : f33_w1A k retF n2 p3 = f33_w1N k (fun y0 => retF y0) n2 p3 :=
  Eq.mp (by kernel_rfl) (loop_sim (E := (f33_E k)) (c := f33_cw1) (K := (kont (f33_E k) f33_code [1, 0, 1, 0] (endK (f33_E k) Try.f33 [] f33_un retF))) (S := Int × PV) (fun s => f33_hw1_0 s.1 s.2) (f33_w1B k (fun y0 => retF y0)) (fun NX s => by
    exact Eq.mp (by kernel_rfl) (f33_w1b0_eq k retF NX s.1 s.2)) k (n2, p3))

noncomputable def f33_e (ret0 : PV → R) (w1 : Int → PV → R) (p1 : PV) : R :=
  w1 0 p1

theorem f33_e_mem (k : Nat) (retF : PV → R) (p1 : PV) : exec (f33_E k) f33_code (endK (f33_E k) Try.f33 [] f33_un retF) ⟨[.val 45 p1, .undef, .undef, .undef, .undef, .undef, .undef, .undef, .undef, .undef, .undef, .undef, .undef, .undef, .undef], []⟩ = f33_e (fun y0 => retF y0) (fun n2 p3 => f33_w1A k retF n2 p3) p1 := by kernel_rfl

noncomputable def f33_N (k : Nat) (ret0 : PV → R) (p1 : PV) : R :=
  f33_e ret0 (fun n2 p3 => f33_w1N k ret0 n2 p3) p1
theorem f33_eq (k : Nat) (retF : PV → R) (p1 : PV) : exec (f33_E k) f33_code (endK (f33_E k) Try.f33 [] f33_un retF) ⟨[.val 45 p1, .undef, .undef, .undef, .undef, .undef, .undef, .undef, .undef, .undef, .undef, .undef, .undef, .undef, .undef], []⟩ = f33_N k (fun y0 => retF y0) p1 :=
  (f33_e_mem k retF p1).trans (by rw [show (fun n2 p3 => f33_w1A k retF n2 p3) = (fun n2 p3 => f33_w1N k (fun y0 => retF y0) n2 p3) from funext fun n2 => funext fun p3 => f33_w1_eq k retF n2 p3]; rfl)

noncomputable def G33 : Nat → PV → (PV → R) → R
  | 0, _, _ => none
  | k + 1, p1, ret0 => f33_N k  ret0 p1
theorem S33 : ∀ k, Snd Try.prog 33 f33_I f33_O (fun x ret => G33 k x (fun y0 => ret y0))
  | 0 => snd_none
  | k + 1 => snd_step (E := f33_E k ) rfl laidOut noNums orc0_ok (f := 33) (fn := Try.f33) (code := f33_code) Try.func33 (by kernel_rfl) (drawsOk_of laidOut orc0_ok mixed (by kernel_rfl)) f33_un f33_un_ok [] (fun _ => rfl)
      (fun x ret => f33_eq k  ret x)

/- catchpole/catchpoleref1.And -/
noncomputable def f32_I : PV × PV → List SV × Obs := fun x => ([.val 45 x.1, .val 45 x.2], [])
noncomputable def f32_D : List SV → Obs → Option (PV × PV)
  | [.val 45 p1, .val 45 p2], [] => some (p1, p2)
  | _, _ => none
theorem f32_D_ok (args : List SV) (B : Obs) (x : PV × PV) (h : f32_D args B = some x) : f32_I x = (args, B) := by
  unfold f32_D at h
  split at h
  · injection h with h; subst h; rfl
  · cases h
noncomputable def f32_O : PV → Out := (fun y => ([.val 45 y], []))
noncomputable def f32_un : Out → Option (PV)
  | ([.val 45 y0], []) => some y0
  | _ => none
theorem f32_un_ok (o : Out) (y : PV) (h : f32_un o = some y) : o = f32_O y := by
  unfold f32_un at h
  split at h
  · injection h with h; subst h; rfl
  · cases h
noncomputable def f32_msk : Nat → Option (List Nat) := fun key => bif key == 6 then some [2, 3, 4, 5] else none
noncomputable def f32_C : Oracle := orc0
noncomputable def f32_E (k : Nat) : Env := { P := Try.prog, nilOwn := fun d => false, fldOwn := fun d i => false, ownPar := ownPars, ownRet := false, mask := f32_msk, fuel := k, C := f32_C }
noncomputable def f32_code : Code := Try.f32.body.getD .skip
noncomputable def f32_cw1 : Code := subC f32_code [1, 0, 1, 0, 0]
noncomputable def f32_hw1_0 (p2 : PV) (n3 : Int) (p4 : PV) : St := ⟨[.dead, .dead, .ptr 2 [], .ptr 3 [], .ptr 4 [], .int .i64 n3, .dead, .dead, .dead, .dead, .dead, .dead, .dead, .dead, .dead, .dead, .dead, .dead, .dead, .dead, .dead], [(2, .box 45 (.val 45 p4)), (3, .box 45 (.val 45 p2)), (4, .box 45 (.val 45 (PV.agg (List.replicate 256 (PV.bool false)))))]⟩
noncomputable def f32_w1A (k : Nat) (retF : PV → R) (p2 : PV) (n3 : Int) (p4 : PV) : R := loopM (f32_E k) f32_cw1 (kont (f32_E k) f32_code [1, 0, 1, 0] (endK (f32_E k) Try.f32 [] f32_un retF)) k (f32_hw1_0 p2 n3 p4)
noncomputable def f32_w1b0 (ret0 : PV → R) (next_w1_0 : Int → PV → R) (p2 : PV) (n3 : Int) (p4 : PV) : R :=
  bif (decide (n3 < (256 : Int))) then
    bif (true && decide ((0 : Int) ≤ n3) && decide (n3 < 256)) then
      bif ((PV.tt (PV.fld p4 (n3).toNat)) == true) then
        bif (true && decide ((0 : Int) ≤ n3) && decide (n3 < 256)) then
          bif (true && decide ((0 : Int) ≤ n3) && decide (n3 < 256)) then
            next_w1_0 (IntKind.wrap .i64 (n3 + (1 : Int))) (PV.agg (List.set (PV.flds p4) (n3).toNat (PV.bool (PV.tt (PV.fld p2 (n3).toNat)))))
          else none
        else none
      else bif (true && decide ((0 : Int) ≤ n3) && decide (n3 < 256)) then
        next_w1_0 (IntKind.wrap .i64 (n3 + (1 : Int))) (PV.agg (List.set (PV.flds p4) (n3).toNat (PV.bool false)))
      else none
    else none
  else ret0 p4

theorem f32_w1b0_mem (k : Nat) (retF : PV → R) (NX_w1 : St → R) (p2 : PV) (n3 : Int) (p4 : PV) : exec (f32_E k) f32_cw1 (purgeK (f32_E k) f32_cw1 (loopK NX_w1 (kont (f32_E k) f32_code [1, 0, 1, 0] (endK (f32_E k) Try.f32 [] f32_un retF)))) (f32_hw1_0 p2 n3 p4) = f32_w1b0 (fun y0 => retF y0) (fun n3 p4 => NX_w1 (f32_hw1_0 p2 n3 p4)) p2 n3 p4 := by kernel_rfl

noncomputable def f32_w1b0N (k : Nat) (ret0 : PV → R) (next_w1_0 : Int → PV → R) (p2 : PV) (n3 : Int) (p4 : PV) : R :=
  f32_w1b0 ret0 next_w1_0 p2 n3 p4
theorem f32_w1b0_eq (k : Nat) (retF : PV → R) (NX_w1 : St → R) (p2 : PV) (n3 : Int) (p4 : PV) : exec (f32_E k) f32_cw1 (purgeK (f32_E k) f32_cw1 (loopK NX_w1 (kont (f32_E k) f32_code [1, 0, 1, 0] (endK (f32_E k) Try.f32 [] f32_un retF)))) (f32_hw1_0 p2 n3 p4) = f32_w1b0N k (fun y0 => retF y0) (fun n3 p4 => NX_w1 (f32_hw1_0 p2 n3 p4)) p2 n3 p4 :=
  (f32_w1b0_mem k retF NX_w1 p2 n3 p4)

noncomputable def f32_w1B (k : Nat) (ret0 : PV → R) (p2 : PV) (nx : Int × PV → R) : Int × PV → R := (fun s => f32_w1b0N k ret0 (fun n3 p4 => nx (n3, p4)) p2 s.1 s.2)
noncomputable def f32_w1N (k : Nat) (ret0 : PV → R) (p2 : PV) (n3 : Int) (p4 : PV) : R := loopR (f32_w1B k ret0 p2) k (n3, p4)
theorem f32_w1_eq (k : Nat) (retF : PV → R) (p2 : PV) (n3 : Int) (p4 : PV) : f32_w1A k retF p2 n3 p4 = f32_w1N k (fun y0 => retF y0) p2 n3 p4 :=
  Eq.mp (by kernel_rfl) (loop_sim (E := (f32_E k)) (c := f32_cw1) (K := (kont (f32_E k) f32_code [1, 0, 1, 0] (endK (f32_E k) Try.f32 [] f32_un retF))) (S := Int × PV) (fun s => f32_hw1_0 p2 s.1 s.2) (f32_w1B k (fun y0 => retF y0) p2) (fun NX s => by
    exact Eq.mp (by kernel_rfl) (f32_w1b0_eq k retF NX p2 s.1 s.2)) k (n3, p4))

noncomputable def f32_e (ret0 : PV → R) (w1 : Int → PV → R) (p1 : PV) (p2 : PV) : R :=
  w1 0 p1

theorem f32_e_mem (k : Nat) (retF : PV → R) (p1 : PV) (p2 : PV) : exec (f32_E k) f32_code (endK (f32_E k) Try.f32 [] f32_un retF) ⟨[.val 45 p1, .val 45 p2, .undef, .undef, .undef, .undef, .undef, .undef, .undef, .undef, .undef, .undef, .undef, .undef, .undef, .undef, .undef, .undef, .undef, .undef, .undef], []⟩ = f32_e (fun y0 => retF y0) (fun n3 p4 => f32_w1A k retF p2 n3 p4) p1 p2 := by kernel_rfl

noncomputable def f32_N (k : Nat) (ret0 : PV → R) (p1 : PV) (p2 : PV) : R :=
  f32_e ret0 (fun n3 p4 => f32_w1N k ret0 p2 n3 p4) p1 p2
theorem f32_eq (k : Nat) (retF : PV → R) (p1 : PV) (p2 : PV) : exec (f32_E k) f32_code (endK (f32_E k) Try.f32 [] f32_un retF) ⟨[.val 45 p1, .val 45 p2, .undef, .undef, .undef, .undef, .undef, .undef, .undef, .undef, .undef, .undef, .undef, .undef, .undef, .undef, .undef, .undef, .undef, .undef, .undef], []⟩ = f32_N k (fun y0 => retF y0) p1 p2 :=
  (f32_e_mem k retF p1 p2).trans (by rw [show (fun n3 p4 => f32_w1A k retF p2 n3 p4) = (fun n3 p4 => f32_w1N k (fun y0 => retF y0) p2 n3 p4) from funext fun n3 => funext fun p4 => f32_w1_eq k retF p2 n3 p4]; rfl)

noncomputable def G32 : Nat → PV → PV → (PV → R) → R
  | 0, _, _, _ => none
  | k + 1, p1, p2, ret0 => f32_N k  ret0 p1 p2
theorem S32 : ∀ k, Snd Try.prog 32 f32_I f32_O (fun x ret => G32 k x.1 x.2 (fun y0 => ret y0))
  | 0 => snd_none
  | k + 1 => snd_step (E := f32_E k ) rfl laidOut noNums orc0_ok (f := 32) (fn := Try.f32) (code := f32_code) Try.func32 (by kernel_rfl) (drawsOk_of laidOut orc0_ok mixed (by kernel_rfl)) f32_un f32_un_ok [] (fun _ => rfl)
      (fun x ret => f32_eq k  ret x.1 x.2)

/- catchpole/catchpoleref1.Named -/
noncomputable def f39_I : (List Int) → List SV × Obs := fun x => ([.str x], [])
noncomputable def f39_D : List SV → Obs → Option ((List Int))
  | [.str s1], [] => some s1
  | _, _ => none
theorem f39_D_ok (args : List SV) (B : Obs) (x : (List Int)) (h : f39_D args B = some x) : f39_I x = (args, B) := by
  unfold f39_D at h
  split at h
  · injection h with h; subst h; rfl
  · cases h
noncomputable def f39_O : PV × Bool → Out := (fun y => ([.val 45 y.1, .bool y.2], []))
noncomputable def f39_un : Out → Option (PV × Bool)
  | ([.val 45 y0, .bool y1], []) => some (y0, y1)
  | _ => none
theorem f39_un_ok (o : Out) (y : PV × Bool) (h : f39_un o = some y) : o = f39_O y := by
  unfold f39_un at h
  split at h
  · injection h with h; subst h; rfl
  · cases h
noncomputable def f39_msk : Nat → Option (List Nat) := fun key =>  none
noncomputable def f39_C (c29 : PV → (PV → R) → R) (c30 : Int → Int → (PV → R) → R) (c31 : PV → PV → (PV → R) → R) (c32 : PV → PV → (PV → R) → R) (c33 : PV → (PV → R) → R) : Oracle := orc 29 f29_D f29_O (fun x ret => c29 x (fun y0 => ret y0)) <| orc 30 f30_D f30_O (fun x ret => c30 x.1 x.2 (fun y0 => ret y0)) <| orc 31 f31_D f31_O (fun x ret => c31 x.1 x.2 (fun y0 => ret y0)) <| orc 32 f32_D f32_O (fun x ret => c32 x.1 x.2 (fun y0 => ret y0)) <| orc 33 f33_D f33_O (fun x ret => c33 x (fun y0 => ret y0)) <| orc0
noncomputable def f39_E (k : Nat) (c29 : PV → (PV → R) → R) (c30 : Int → Int → (PV → R) → R) (c31 : PV → PV → (PV → R) → R) (c32 : PV → PV → (PV → R) → R) (c33 : PV → (PV → R) → R) : Env := { P := Try.prog, nilOwn := fun d => false, fldOwn := fun d i => false, ownPar := ownPars, ownRet := false, mask := f39_msk, fuel := k, C := f39_C c29 c30 c31 c32 c33 }
noncomputable def f39_code : Code := Try.f39.body.getD .skip
noncomputable def f39_e (c29 : PV → (PV → R) → R) (c30 : Int → Int → (PV → R) → R) (c31 : PV → PV → (PV → R) → R) (c32 : PV → PV → (PV → R) → R) (c33 : PV → (PV → R) → R) (ret0 : PV → Bool → R) (s1 : List Int) : R :=
  c30 65 90 fun p2 =>
  c30 97 122 fun p3 =>
  c30 48 57 fun p4 =>
  c31 p2 p3 fun p5 =>
  c31 p5 p4 fun p6 =>
  bif (decide ((s1 : List Int) = [117, 112, 112, 101, 114])) then
    ret0 p2 true
  else bif (decide ((s1 : List Int) = [108, 111, 119, 101, 114])) then
    ret0 p3 true
  else bif (decide ((s1 : List Int) = [97, 108, 112, 104, 97])) then
    c31 p2 p3 fun p7 =>
    ret0 p7 true
  else bif (decide ((s1 : List Int) = [100, 105, 103, 105, 116])) then
    ret0 p4 true
  else bif (decide ((s1 : List Int) = [97, 108, 110, 117, 109])) then
    ret0 p6 true
  else bif (decide ((s1 : List Int) = [120, 100, 105, 103, 105, 116])) then
    c30 65 70 fun p8 =>
    c30 97 102 fun p9 =>
    c31 p8 p9 fun p10 =>
    c31 p4 p10 fun p11 =>
    ret0 p11 true
  else bif (decide ((s1 : List Int) = [98, 108, 97, 110, 107])) then
    c29 (PV.list [(PV.int 32), (PV.int 9)]) fun p12 =>
    ret0 p12 true
  else bif (decide ((s1 : List Int) = [115, 112, 97, 99, 101])) then
    c29 (PV.list [(PV.int 32)]) fun p13 =>
    c30 9 13 fun p14 =>
    c31 p13 p14 fun p15 =>
    ret0 p15 true
  else bif (decide ((s1 : List Int) = [99, 110, 116, 114, 108])) then
    c30 0 31 fun p16 =>
    c29 (PV.list [(PV.int 127)]) fun p17 =>
    c31 p16 p17 fun p18 =>
    ret0 p18 true
  else bif (decide ((s1 : List Int) = [112, 117, 110, 99, 116])) then
    c30 33 126 fun p19 =>
    c33 p6 fun p20 =>
    c32 p19 p20 fun p21 =>
    ret0 p21 true
  else bif (decide ((s1 : List Int) = [103, 114, 97, 112, 104])) then
    c30 33 126 fun p22 =>
    ret0 p22 true
  else bif (decide ((s1 : List Int) = [112, 114, 105, 110, 116])) then
    c30 32 126 fun p23 =>
    ret0 p23 true
  else ret0 (PV.agg (List.replicate 256 (PV.bool false))) false

theorem f39_e_mem (k : Nat) (c29 : PV → (PV → R) → R) (c30 : Int → Int → (PV → R) → R) (c31 : PV → PV → (PV → R) → R) (c32 : PV → PV → (PV → R) → R) (c33 : PV → (PV → R) → R) (retF : PV × Bool → R) (s1 : List Int) : exec (f39_E k c29 c30 c31 c32 c33) f39_code (endK (f39_E k c29 c30 c31 c32 c33) Try.f39 [] f39_un retF) ⟨[.str s1, .undef, .undef, .undef, .undef, .undef, .undef, .undef, .undef, .undef, .undef, .undef, .undef, .undef, .undef, .undef, .undef, .undef, .undef, .undef, .undef, .undef, .undef, .undef, .undef, .undef, .undef, .undef, .undef, .undef, .undef, .undef, .undef, .undef, .undef, .undef, .undef, .undef, .undef, .undef, .undef, .undef, .undef, .undef, .undef, .undef, .undef, .undef, .undef, .undef, .undef, .undef, .undef, .undef, .undef, .undef, .undef, .undef, .undef, .undef, .undef, .undef, .undef, .undef, .undef, .undef, .undef, .undef, .undef, .undef], []⟩ = f39_e c29 c30 c31 c32 c33 (fun y0 y1 => retF (y0, y1)) s1 := by kernel_rfl

noncomputable def f39_N (k : Nat) (c29 : PV → (PV → R) → R) (c30 : Int → Int → (PV → R) → R) (c31 : PV → PV → (PV → R) → R) (c32 : PV → PV → (PV → R) → R) (c33 : PV → (PV → R) → R) (ret0 : PV → Bool → R) (s1 : List Int) : R :=
  f39_e c29 c30 c31 c32 c33 ret0 s1
theorem f39_eq (k : Nat) (c29 : PV → (PV → R) → R) (c30 : Int → Int → (PV → R) → R) (c31 : PV → PV → (PV → R) → R) (c32 : PV → PV → (PV → R) → R) (c33 : PV → (PV → R) → R) (retF : PV × Bool → R) (s1 : List Int) : exec (f39_E k c29 c30 c31 c32 c33) f39_code (endK (f39_E k c29 c30 c31 c32 c33) Try.f39 [] f39_un retF) ⟨[.str s1, .undef, .undef, .undef, .undef, .undef, .undef, .undef, .undef, .undef, .undef, .undef, .undef, .undef, .undef, .undef, .undef, .undef, .undef, .undef, .undef, .undef, .undef, .undef, .undef, .undef, .undef, .undef, .undef, .undef, .undef, .undef, .undef, .undef, .undef, .undef, .undef, .undef, .undef, .undef, .undef, .undef, .undef, .undef, .undef, .undef, .undef, .undef, .undef, .undef, .undef, .undef, .undef, .undef, .undef, .undef, .undef, .undef, .undef, .undef, .undef, .undef, .undef, .undef, .undef, .undef, .undef, .undef, .undef, .undef], []⟩ = f39_N k c29 c30 c31 c32 c33 (fun y0 y1 => retF (y0, y1)) s1 :=
  (f39_e_mem k c29 c30 c31 c32 c33 retF s1)

noncomputable def G39 : Nat → (List Int) → (PV → Bool → R) → R
  | 0, _, _ => none
  | k + 1, s1, ret0 => f39_N k (G29 k) (G30 k) (G31 k) (G32 k) (G33 k) ret0 s1
theorem S39 : ∀ k, Snd Try.prog 39 f39_I f39_O (fun x ret => G39 k x (fun y0 y1 => ret (y0, y1)))
  | 0 => snd_none
  | k + 1 => snd_step (E := f39_E k (G29 k) (G30 k) (G31 k) (G32 k) (G33 k)) rfl laidOut noNums (orc_ok (S29 k).o f29_D_ok (orc_ok (S30 k).o f30_D_ok (orc_ok (S31 k).o f31_D_ok (orc_ok (S32 k).o f32_D_ok (orc_ok (S33 k).o f33_D_ok orc0_ok))))) (f := 39) (fn := Try.f39) (code := f39_code) Try.func39 (by kernel_rfl) (drawsOk_of laidOut (orc_ok (S29 k).o f29_D_ok (orc_ok (S30 k).o f30_D_ok (orc_ok (S31 k).o f31_D_ok (orc_ok (S32 k).o f32_D_ok (orc_ok (S33 k).o f33_D_ok orc0_ok))))) mixed (by kernel_rfl)) f39_un f39_un_ok [] (fun _ => rfl)
      (fun x ret => f39_eq k (G29 k) (G30 k) (G31 k) (G32 k) (G33 k) ret x)

/- catchpole/class.Whole$1 -/
noncomputable def f70_I : PV × PV → List SV × Obs := fun x => ([.val 24 x.1, .ptr 4000000 []], [(4000000, .box 24 (.val 24 x.2))])
noncomputable def f70_D : List SV → Obs → Option (PV × PV)
  | [.val 24 p1, .ptr 4000000 []], [(4000000, .box 24 (.val 24 p2))] => some (p1, p2)
  | _, _ => none
theorem f70_D_ok (args : List SV) (B : Obs) (x : PV × PV) (h : f70_D args B = some x) : f70_I x = (args, B) := by
  unfold f70_D at h
  split at h
  · injection h with h; subst h; rfl
  · cases h
noncomputable def f70_O : Bool × PV → Out := (fun y => ([.bool y.1], [(4000000, .box 24 (.val 24 y.2))]))
noncomputable def f70_un : Out → Option (Bool × PV)
  | ([.bool y0], [(4000000, .box 24 (.val 24 y1))]) => some (y0, y1)
  | _ => none
theorem f70_un_ok (o : Out) (y : Bool × PV) (h : f70_un o = some y) : o = f70_O y := by
  unfold f70_un at h
  split at h
  · injection h with h; subst h; rfl
  · cases h
noncomputable def f70_msk : Nat → Option (List Nat) := fun key =>  none
noncomputable def f70_C : Oracle := orc0
noncomputable def f70_E (k : Nat) : Env := { P := Try.prog, nilOwn := fun d => false, fldOwn := fun d i => false, ownPar := ownPars, ownRet := false, mask := f70_msk, fuel := k, C := f70_C }
noncomputable def f70_code : Code := Try.f70.body.getD .skip
noncomputable def f70_e (ret0 : Bool → PV → R) (p1 : PV) (p2 : PV) : R :=
  ret0 (PV.beq p1 p2) p2

theorem f70_e_mem (k : Nat) (retF : Bool × PV → R) (p1 : PV) (p2 : PV) : exec (f70_E k) f70_code (endK (f70_E k) Try.f70 [4000000] f70_un retF) ⟨[.val 24 p1, .ptr 4000000 [], .undef, .undef, .undef, .undef, .undef], [(4000000, .box 24 (.val 24 p2))]⟩ = f70_e (fun y0 y1 => retF (y0, y1)) p1 p2 := by kernel_rfl

noncomputable def f70_N (k : Nat) (ret0 : Bool → PV → R) (p1 : PV) (p2 : PV) : R :=
  f70_e ret0 p1 p2
theorem f70_eq (k : Nat) (retF : Bool × PV → R) (p1 : PV) (p2 : PV) : exec (f70_E k) f70_code (endK (f70_E k) Try.f70 [4000000] f70_un retF) ⟨[.val 24 p1, .ptr 4000000 [], .undef, .undef, .undef, .undef, .undef], [(4000000, .box 24 (.val 24 p2))]⟩ = f70_N k (fun y0 y1 => retF (y0, y1)) p1 p2 :=
  (f70_e_mem k retF p1 p2)

noncomputable def G70 : Nat → PV → PV → (Bool → PV → R) → R
  | 0, _, _, _ => none
  | k + 1, p1, p2, ret0 => f70_N k  ret0 p1 p2
theorem S70 : ∀ k, Snd Try.prog 70 f70_I f70_O (fun x ret => G70 k x.1 x.2 (fun y0 y1 => ret (y0, y1)))
  | 0 => snd_none
  | k + 1 => snd_step (E := f70_E k ) rfl laidOut noNums orc0_ok (f := 70) (fn := Try.f70) (code := f70_code) Try.func70 (by kernel_rfl) (drawsOk_of laidOut orc0_ok mixed (by kernel_rfl)) f70_un f70_un_ok [4000000] (fun _ => rfl)
      (fun x ret => f70_eq k  ret x.1 x.2)

/- catchpole/class.those -/
noncomputable def f69v1_I : PV → List SV × Obs := fun x => ([.fn 70 [.ptr 2001000 []]], [(2001000, .box 24 (.val 24 x))])
noncomputable def f69v1_D : List SV → Obs → Option (PV)
  | [.fn 70 [.ptr 2001000 []]], [(2001000, .box 24 (.val 24 p1))] => some p1
  | _, _ => none
theorem f69v1_D_ok (args : List SV) (B : Obs) (x : PV) (h : f69v1_D args B = some x) : f69v1_I x = (args, B) := by
  unfold f69v1_D at h
  split at h
  · injection h with h; subst h; rfl
  · cases h
noncomputable def f69v1_O : PV × PV → Out := (fun y => ([.val 64 y.1], [(2001000, .box 24 (.val 24 y.2))]))
noncomputable def f69v1_un : Out → Option (PV × PV)
  | ([.val 64 y0], [(2001000, .box 24 (.val 24 y1))]) => some (y0, y1)
  | _ => none
theorem f69v1_un_ok (o : Out) (y : PV × PV) (h : f69v1_un o = some y) : o = f69v1_O y := by
  unfold f69v1_un at h
  split at h
  · injection h with h; subst h; rfl
  · cases h
noncomputable def f69v1_msk : Nat → Option (List Nat) := fun key => bif key == 9 then some [0, 3, 6, 7, 8] else none
noncomputable def f69v1_C (c66 : (PV → R) → R) (c70 : PV → PV → (Bool → PV → R) → R) : Oracle := orc 66 f66_D f66_O (fun x ret => c66 (fun y0 => ret y0)) <| orc 70 f70_D f70_O (fun x ret => c70 x.1 x.2 (fun y0 y1 => ret (y0, y1))) <| orc0
noncomputable def f69v1_E (k : Nat) (c66 : (PV → R) → R) (c70 : PV → PV → (Bool → PV → R) → R) : Env := { P := Try.prog, nilOwn := fun d => d == 3, fldOwn := fun d i => false, ownPar := ownPars, ownRet := false, mask := f69v1_msk, fuel := k, C := f69v1_C c66 c70 }
noncomputable def f69v1_code : Code := Try.f69.body.getD .skip
noncomputable def f69v1_cw1 : Code := subC f69v1_code [1, 1, 0, 1, 0, 0]
noncomputable def f69v1_hw1_0 (p2 : PV) (n5 : Int) (l6 : List PV) (p7 : PV) : St := ⟨[.fn 70 [.ptr 2001000 []], .dead, .dead, .own 64 3, .dead, .dead, .val 97 p2, .int .i64 (List.length (PV.els p2) : Int), .int .i64 n5, .dead, .dead, .dead, .dead, .dead, .dead, .dead, .dead, .dead, .dead, .dead, .dead, .dead, .dead], [(3, .row 9 l6), (2001000, .box 24 (.val 24 p7))]⟩
noncomputable def f69v1_w1A (k : Nat) (c66 : (PV → R) → R) (c70 : PV → PV → (Bool → PV → R) → R) (retF : PV × PV → R) (p2 : PV) (n5 : Int) (l6 : List PV) (p7 : PV) : R := loopM (f69v1_E k c66 c70) f69v1_cw1 (kont (f69v1_E k c66 c70) f69v1_code [1, 1, 0, 1, 0] (endK (f69v1_E k c66 c70) Try.f69 [2001000] f69v1_un retF)) k (f69v1_hw1_0 p2 n5 l6 p7)
noncomputable def f69v1_w1b0 (c66 : (PV → R) → R) (c70 : PV → PV → (Bool → PV → R) → R) (ret0 : PV → PV → R) (next_w1_0 : Int → (List PV) → PV → R) (p2 : PV) (n5 : Int) (l6 : List PV) (p7 : PV) : R :=
  bif (decide (n5 < (List.length (PV.els p2) : Int))) then
    bif (true && decide ((0 : Int) ≤ n5) && decide (n5 < (List.length (PV.els p2) : Int))) then
      c70 (PV.fld (List.getD (PV.els p2) (n5).toNat PV.nil) 1) p7 fun b8 p9 =>
      bif b8 then
        bif (true && roomy (List.length l6 + List.length [(PV.str (PV.chars (PV.fld (List.getD (PV.els p2) (n5).toNat PV.nil) 0)))]) 16) then
          next_w1_0 (IntKind.wrap .i64 (n5 + (1 : Int))) (l6 ++ [(PV.str (PV.chars (PV.fld (List.getD (PV.els p2) (n5).toNat PV.nil) 0)))]) p9
        else none
      else next_w1_0 (IntKind.wrap .i64 (n5 + (1 : Int))) l6 p9
    else none
  else ret0 (PV.list l6) p7

theorem f69v1_w1b0_mem (k : Nat) (c66 : (PV → R) → R) (c70 : PV → PV → (Bool → PV → R) → R) (retF : PV × PV → R) (NX_w1 : St → R) (p2 : PV) (n5 : Int) (l6 : List PV) (p7 : PV) : exec (f69v1_E k c66 c70) f69v1_cw1 (purgeK (f69v1_E k c66 c70) f69v1_cw1 (loopK NX_w1 (kont (f69v1_E k c66 c70) f69v1_code [1, 1, 0, 1, 0] (endK (f69v1_E k c66 c70) Try.f69 [2001000] f69v1_un retF)))) (f69v1_hw1_0 p2 n5 l6 p7) = f69v1_w1b0 c66 c70 (fun y0 y1 => retF (y0, y1)) (fun n5 l6 p7 => NX_w1 (f69v1_hw1_0 p2 n5 l6 p7)) p2 n5 l6 p7 := by kernel_rfl

noncomputable def f69v1_w1b0N (k : Nat) (c66 : (PV → R) → R) (c70 : PV → PV → (Bool → PV → R) → R) (ret0 : PV → PV → R) (next_w1_0 : Int → (List PV) → PV → R) (p2 : PV) (n5 : Int) (l6 : List PV) (p7 : PV) : R :=
  f69v1_w1b0 c66 c70 ret0 next_w1_0 p2 n5 l6 p7
theorem f69v1_w1b0_eq (k : Nat) (c66 : (PV → R) → R) (c70 : PV → PV → (Bool → PV → R) → R) (retF : PV × PV → R) (NX_w1 : St → R) (p2 : PV) (n5 : Int) (l6 : List PV) (p7 : PV) : exec (f69v1_E k c66 c70) f69v1_cw1 (purgeK (f69v1_E k c66 c70) f69v1_cw1 (loopK NX_w1 (kont (f69v1_E k c66 c70) f69v1_code [1, 1, 0, 1, 0] (endK (f69v1_E k c66 c70) Try.f69 [2001000] f69v1_un retF)))) (f69v1_hw1_0 p2 n5 l6 p7) = f69v1_w1b0N k c66 c70 (fun y0 y1 => retF (y0, y1)) (fun n5 l6 p7 => NX_w1 (f69v1_hw1_0 p2 n5 l6 p7)) p2 n5 l6 p7 :=
  (f69v1_w1b0_mem k c66 c70 retF NX_w1 p2 n5 l6 p7)

noncomputable def f69v1_w1B (k : Nat) (c66 : (PV → R) → R) (c70 : PV → PV → (Bool → PV → R) → R) (ret0 : PV → PV → R) (p2 : PV) (nx : Int × (List PV) × PV → R) : Int × (List PV) × PV → R := (fun s => f69v1_w1b0N k c66 c70 ret0 (fun n5 l6 p7 => nx (n5, l6, p7)) p2 s.1 s.2.1 s.2.2)
noncomputable def f69v1_w1N (k : Nat) (c66 : (PV → R) → R) (c70 : PV → PV → (Bool → PV → R) → R) (ret0 : PV → PV → R) (p2 : PV) (n5 : Int) (l6 : List PV) (p7 : PV) : R := loopR (f69v1_w1B k c66 c70 ret0 p2) k (n5, l6, p7)
theorem f69v1_w1_eq (k : Nat) (c66 : (PV → R) → R) (c70 : PV → PV → (Bool → PV → R) → R) (retF : PV × PV → R) (p2 : PV) (n5 : Int) (l6 : List PV) (p7 : PV) : f69v1_w1A k c66 c70 retF p2 n5 l6 p7 = f69v1_w1N k c66 c70 (fun y0 y1 => retF (y0, y1)) p2 n5 l6 p7 :=
  Eq.mp (by kernel_rfl) (loop_sim (E := (f69v1_E k c66 c70)) (c := f69v1_cw1) (K := (kont (f69v1_E k c66 c70) f69v1_code [1, 1, 0, 1, 0] (endK (f69v1_E k c66 c70) Try.f69 [2001000] f69v1_un retF))) (S := Int × (List PV) × PV) (fun s => f69v1_hw1_0 p2 s.1 s.2.1 s.2.2) (f69v1_w1B k c66 c70 (fun y0 y1 => retF (y0, y1)) p2) (fun NX s => by
    exact Eq.mp (by kernel_rfl) (f69v1_w1b0_eq k c66 c70 retF NX p2 s.1 s.2.1 s.2.2)) k (n5, l6, p7))

noncomputable def f69v1_e (c66 : (PV → R) → R) (c70 : PV → PV → (Bool → PV → R) → R) (ret0 : PV → PV → R) (w1 : PV → Int → (List PV) → PV → R) (p1 : PV) : R :=
  c66 fun p2 =>
  w1 p2 0 [] p1

theorem f69v1_e_mem (k : Nat) (c66 : (PV → R) → R) (c70 : PV → PV → (Bool → PV → R) → R) (retF : PV × PV → R) (p1 : PV) : exec (f69v1_E k c66 c70) f69v1_code (endK (f69v1_E k c66 c70) Try.f69 [2001000] f69v1_un retF) ⟨[.fn 70 [.ptr 2001000 []], .undef, .undef, .undef, .undef, .undef, .undef, .undef, .undef, .undef, .undef, .undef, .undef, .undef, .undef, .undef, .undef, .undef, .undef, .undef, .undef, .undef, .undef], [(2001000, .box 24 (.val 24 p1))]⟩ = f69v1_e c66 c70 (fun y0 y1 => retF (y0, y1)) (fun p2 n5 l6 p7 => f69v1_w1A k c66 c70 retF p2 n5 l6 p7) p1 := by kernel_rfl

noncomputable def f69v1_N (k : Nat) (c66 : (PV → R) → R) (c70 : PV → PV → (Bool → PV → R) → R) (ret0 : PV → PV → R) (p1 : PV) : R :=
  f69v1_e c66 c70 ret0 (fun p2 n5 l6 p7 => f69v1_w1N k c66 c70 ret0 p2 n5 l6 p7) p1
theorem f69v1_eq (k : Nat) (c66 : (PV → R) → R) (c70 : PV → PV → (Bool → PV → R) → R) (retF : PV × PV → R) (p1 : PV) : exec (f69v1_E k c66 c70) f69v1_code (endK (f69v1_E k c66 c70) Try.f69 [2001000] f69v1_un retF) ⟨[.fn 70 [.ptr 2001000 []], .undef, .undef, .undef, .undef, .undef, .undef, .undef, .undef, .undef, .undef, .undef, .undef, .undef, .undef, .undef, .undef, .undef, .undef, .undef, .undef, .undef, .undef], [(2001000, .box 24 (.val 24 p1))]⟩ = f69v1_N k c66 c70 (fun y0 y1 => retF (y0, y1)) p1 :=
  (f69v1_e_mem k c66 c70 retF p1).trans (by rw [show (fun p2 n5 l6 p7 => f69v1_w1A k c66 c70 retF p2 n5 l6 p7) = (fun p2 n5 l6 p7 => f69v1_w1N k c66 c70 (fun y0 y1 => retF (y0, y1)) p2 n5 l6 p7) from funext fun p2 => funext fun n5 => funext fun l6 => funext fun p7 => f69v1_w1_eq k c66 c70 retF p2 n5 l6 p7]; rfl)

noncomputable def G69v1 : Nat → PV → (PV → PV → R) → R
  | 0, _, _ => none
  | k + 1, p1, ret0 => f69v1_N k (G66 k) (G70 k) ret0 p1
theorem S69v1 : ∀ k, Snd Try.prog 69 f69v1_I f69v1_O (fun x ret => G69v1 k x (fun y0 y1 => ret (y0, y1)))
  | 0 => snd_none
  | k + 1 => snd_step (E := f69v1_E k (G66 k) (G70 k)) rfl laidOut noNums (orc_ok (S66 k).o f66_D_ok (orc_ok (S70 k).o f70_D_ok orc0_ok)) (f := 69) (fn := Try.f69) (code := f69v1_code) Try.func69 (by kernel_rfl) (drawsOk_of laidOut (orc_ok (S66 k).o f66_D_ok (orc_ok (S70 k).o f70_D_ok orc0_ok)) mixed (by kernel_rfl)) f69v1_un f69v1_un_ok [2001000] (fun _ => rfl)
      (fun x ret => f69v1_eq k (G66 k) (G70 k) ret x)

/- catchpole/class.Whole -/
noncomputable def f40_I : PV → List SV × Obs := fun x => ([.val 24 x], [])
noncomputable def f40_D : List SV → Obs → Option (PV)
  | [.val 24 p1], [] => some p1
  | _, _ => none
theorem f40_D_ok (args : List SV) (B : Obs) (x : PV) (h : f40_D args B = some x) : f40_I x = (args, B) := by
  unfold f40_D at h
  split at h
  · injection h with h; subst h; rfl
  · cases h
noncomputable def f40_O : (List Int) × Bool → Out := (fun y => ([.str y.1, .bool y.2], []))
noncomputable def f40_un : Out → Option ((List Int) × Bool)
  | ([.str y0, .bool y1], []) => some (y0, y1)
  | _ => none
theorem f40_un_ok (o : Out) (y : (List Int) × Bool) (h : f40_un o = some y) : o = f40_O y := by
  unfold f40_un at h
  split at h
  · injection h with h; subst h; rfl
  · cases h
noncomputable def f40_msk : Nat → Option (List Nat) := fun key =>  none
noncomputable def f40_C (c69v1 : PV → (PV → PV → R) → R) : Oracle := orc 69 f69v1_D f69v1_O (fun x ret => c69v1 x (fun y0 y1 => ret (y0, y1))) <| orc0
noncomputable def f40_E (k : Nat) (c69v1 : PV → (PV → PV → R) → R) : Env := { P := Try.prog, nilOwn := fun d => false, fldOwn := fun d i => false, ownPar := ownPars, ownRet := false, mask := f40_msk, fuel := k, C := f40_C c69v1 }
noncomputable def f40_code : Code := Try.f40.body.getD .skip
noncomputable def f40_e (c69v1 : PV → (PV → PV → R) → R) (ret0 : (List Int) → Bool → R) (p1 : PV) : R :=
  c69v1 p1 fun p2 p3 =>
  bif (decide ((List.length (PV.els p2) : Int) = (0 : Int))) then
    ret0 [] false
  else bif (true && decide ((0 : Int) ≤ (0 : Int)) && decide ((0 : Int) < (List.length (PV.els p2) : Int))) then
    ret0 (PV.chars (List.getD (PV.els p2) ((0 : Int)).toNat PV.nil)) true
  else none

theorem f40_e_mem (k : Nat) (c69v1 : PV → (PV → PV → R) → R) (retF : (List Int) × Bool → R) (p1 : PV) : exec (f40_E k c69v1) f40_code (endK (f40_E k c69v1) Try.f40 [] f40_un retF) ⟨[.val 24 p1, .undef, .undef, .undef, .undef, .undef, .undef, .undef, .undef, .undef, .undef, .undef, .undef], []⟩ = f40_e c69v1 (fun y0 y1 => retF (y0, y1)) p1 := by kernel_rfl

noncomputable def f40_N (k : Nat) (c69v1 : PV → (PV → PV → R) → R) (ret0 : (List Int) → Bool → R) (p1 : PV) : R :=
  f40_e c69v1 ret0 p1
theorem f40_eq (k : Nat) (c69v1 : PV → (PV → PV → R) → R) (retF : (List Int) × Bool → R) (p1 : PV) : exec (f40_E k c69v1) f40_code (endK (f40_E k c69v1) Try.f40 [] f40_un retF) ⟨[.val 24 p1, .undef, .undef, .undef, .undef, .undef, .undef, .undef, .undef, .undef, .undef, .undef, .undef], []⟩ = f40_N k c69v1 (fun y0 y1 => retF (y0, y1)) p1 :=
  (f40_e_mem k c69v1 retF p1)

noncomputable def G40 : Nat → PV → ((List Int) → Bool → R) → R
  | 0, _, _ => none
  | k + 1, p1, ret0 => f40_N k (G69v1 k) ret0 p1
theorem S40 : ∀ k, Snd Try.prog 40 f40_I f40_O (fun x ret => G40 k x (fun y0 y1 => ret (y0, y1)))
  | 0 => snd_none
  | k + 1 => snd_step (E := f40_E k (G69v1 k)) rfl laidOut noNums (orc_ok (S69v1 k).o f69v1_D_ok orc0_ok) (f := 40) (fn := Try.f40) (code := f40_code) Try.func40 (by kernel_rfl) (drawsOk_of laidOut (orc_ok (S69v1 k).o f69v1_D_ok orc0_ok) mixed (by kernel_rfl)) f40_un f40_un_ok [] (fun _ => rfl)
      (fun x ret => f40_eq k (G69v1 k) ret x)

/- catchpole/catchpoleref1.From -/
noncomputable def f65_I : PV → List SV × Obs := fun x => ([.val 23 x], [])
noncomputable def f65_D : List SV → Obs → Option (PV)
  | [.val 23 p1], [] => some p1
  | _, _ => none
theorem f65_D_ok (args : List SV) (B : Obs) (x : PV) (h : f65_D args B = some x) : f65_I x = (args, B) := by
  unfold f65_D at h
  split at h
  · injection h with h; subst h; rfl
  · cases h
noncomputable def f65_O : PV → Out := (fun y => ([.val 45 y], []))
noncomputable def f65_un : Out → Option (PV)
  | ([.val 45 y0], []) => some y0
  | _ => none
theorem f65_un_ok (o : Out) (y : PV) (h : f65_un o = some y) : o = f65_O y := by
  unfold f65_un at h
  split at h
  · injection h with h; subst h; rfl
  · cases h
noncomputable def f65_msk : Nat → Option (List Nat) := fun key => bif key == 9 then some [1, 2, 3, 4] else none
noncomputable def f65_C : Oracle := orc0
noncomputable def f65_E (k : Nat) : Env := { P := Try.prog, nilOwn := fun d => false, fldOwn := fun d i => false, ownPar := ownPars, ownRet := false, mask := f65_msk, fuel := k, C := f65_C }
noncomputable def f65_code : Code := Try.f65.body.getD .skip
noncomputable def f65_cw1 : Code := subC f65_code [1, 1, 0, 1, 0, 0]
noncomputable def f65_hw1_0 (p1 : PV) (n3 : Int) (p4 : PV) : St := ⟨[.dead, .ptr 1 [], .ptr 2 [], .ptr 3 [], .int .i64 n3, .dead, .dead, .dead, .dead, .dead, .dead, .dead, .dead, .dead, .dead, .dead, .dead, .dead, .dead, .dead, .dead, .dead], [(1, .box 23 (.val 23 p1)), (2, .box 45 (.val 45 (PV.agg (List.replicate 256 (PV.bool false))))), (3, .box 45 (.val 45 p4))]⟩
noncomputable def f65_w1A (k : Nat) (retF : PV → R) (p1 : PV) (n3 : Int) (p4 : PV) : R := loopM (f65_E k) f65_cw1 (kont (f65_E k) f65_code [1, 1, 0, 1, 0] (endK (f65_E k) Try.f65 [] f65_un retF)) k (f65_hw1_0 p1 n3 p4)
noncomputable def f65_w1b0 (ret0 : PV → R) (next_w1_0 : Int → PV → R) (p1 : PV) (n3 : Int) (p4 : PV) : R :=
  bif (decide (n3 < (256 : Int))) then
    bif (true && decide ((0 : Int) ≤ (IntKind.wrap .i64 (Int.tdiv n3 64))) && decide ((IntKind.wrap .i64 (Int.tdiv n3 64)) < 4)) then
      bif (decide ((0 : Int) ≤ (IntKind.wrap .u64 (Int.tmod n3 64)))) then
        let n5 : Int := (Int.fdiv (PV.num (PV.fld p1 ((IntKind.wrap .i64 (Int.tdiv n3 64))).toNat)) (2 ^ (min ((IntKind.wrap .u64 (Int.tmod n3 64))).toNat 64)))
        bif (true && decide ((0 : Int) ≤ n3) && decide (n3 < 256)) then
          next_w1_0 (IntKind.wrap .i64 (n3 + (1 : Int))) (PV.agg (List.set (PV.flds p4) (n3).toNat (PV.bool (decide ((intBit .and .u64 n5 1) = (1 : Int))))))
        else none
      else none
    else none
  else ret0 p4

theorem f65_w1b0_mem (k : Nat) (retF : PV → R) (NX_w1 : St → R) (p1 : PV) (n3 : Int) (p4 : PV) : exec (f65_E k) f65_cw1 (purgeK (f65_E k) f65_cw1 (loopK NX_w1 (kont (f65_E k) f65_code [1, 1, 0, 1, 0] (endK (f65_E k) Try.f65 [] f65_un retF)))) (f65_hw1_0 p1 n3 p4) = f65_w1b0 (fun y0 => retF y0) (fun n3 p4 => NX_w1 (f65_hw1_0 p1 n3 p4)) p1 n3 p4 := by kernel_rfl

noncomputable def f65_w1b0N (k : Nat) (ret0 : PV → R) (next_w1_0 : Int → PV → R) (p1 : PV) (n3 : Int) (p4 : PV) : R :=
  f65_w1b0 ret0 next_w1_0 p1 n3 p4
theorem f65_w1b0_eq (k : Nat) (retF : PV → R) (NX_w1 : St → R) (p1 : PV) (n3 : Int) (p4 : PV) : exec (f65_E k) f65_cw1 (purgeK (f65_E k) f65_cw1 (loopK NX_w1 (kont (f65_E k) f65_code [1, 1, 0, 1, 0] (endK (f65_E k) Try.f65 [] f65_un retF)))) (f65_hw1_0 p1 n3 p4) = f65_w1b0N k (fun y0 => retF y0) (fun n3 p4 => NX_w1 (f65_hw1_0 p1 n3 p4)) p1 n3 p4 :=
  (f65_w1b0_mem k retF NX_w1 p1 n3 p4)

noncomputable def f65_w1B (k : Nat) (ret0 : PV → R) (p1 : PV) (nx : Int × PV → R) : Int × PV → R := (fun s => f65_w1b0N k ret0 (fun n3 p4 => nx (n3, p4)) p1 s.1 s.2)
noncomputable def f65_w1N (k : Nat) (ret0 : PV → R) (p1 : PV) (n3 : Int) (p4 : PV) : R := loopR (f65_w1B k ret0 p1) k (n3, p4)
theorem f65_w1_eq (k : Nat) (retF : PV → R) (p1 : PV) (n3 : Int) (p4 : PV) : f65_w1A k retF p1 n3 p4 = f65_w1N k (fun y0 => retF y0) p1 n3 p4 :=
  Eq.mp (by kernel_rfl) (loop_sim (E := (f65_E k)) (c := f65_cw1) (K := (kont (f65_E k) f65_code [1, 1, 0, 1, 0] (endK (f65_E k) Try.f65 [] f65_un retF))) (S := Int × PV) (fun s => f65_hw1_0 p1 s.1 s.2) (f65_w1B k (fun y0 => retF y0) p1) (fun NX s => by
    exact Eq.mp (by kernel_rfl) (f65_w1b0_eq k retF NX p1 s.1 s.2)) k (n3, p4))

noncomputable def f65_e (ret0 : PV → R) (w1 : Int → PV → R) (p1 : PV) : R :=
  w1 0 (PV.agg (List.replicate 256 (PV.bool false)))

theorem f65_e_mem (k : Nat) (retF : PV → R) (p1 : PV) : exec (f65_E k) f65_code (endK (f65_E k) Try.f65 [] f65_un retF) ⟨[.val 23 p1, .undef, .undef, .undef, .undef, .undef, .undef, .undef, .undef, .undef, .undef, .undef, .undef, .undef, .undef, .undef, .undef, .undef, .undef, .undef, .undef, .undef], []⟩ = f65_e (fun y0 => retF y0) (fun n3 p4 => f65_w1A k retF p1 n3 p4) p1 := by kernel_rfl

noncomputable def f65_N (k : Nat) (ret0 : PV → R) (p1 : PV) : R :=
  f65_e ret0 (fun n3 p4 => f65_w1N k ret0 p1 n3 p4) p1
theorem f65_eq (k : Nat) (retF : PV → R) (p1 : PV) : exec (f65_E k) f65_code (endK (f65_E k) Try.f65 [] f65_un retF) ⟨[.val 23 p1, .undef, .undef, .undef, .undef, .undef, .undef, .undef, .undef, .undef, .undef, .undef, .undef, .undef, .undef, .undef, .undef, .undef, .undef, .undef, .undef, .undef], []⟩ = f65_N k (fun y0 => retF y0) p1 :=
  (f65_e_mem k retF p1).trans (by rw [show (fun n3 p4 => f65_w1A k retF p1 n3 p4) = (fun n3 p4 => f65_w1N k (fun y0 => retF y0) p1 n3 p4) from funext fun n3 => funext fun p4 => f65_w1_eq k retF p1 n3 p4]; rfl)

noncomputable def G65 : Nat → PV → (PV → R) → R
  | 0, _, _ => none
  | k + 1, p1, ret0 => f65_N k  ret0 p1
theorem S65 : ∀ k, Snd Try.prog 65 f65_I f65_O (fun x ret => G65 k x (fun y0 => ret y0))
  | 0 => snd_none
  | k + 1 => snd_step (E := f65_E k ) rfl laidOut noNums orc0_ok (f := 65) (fn := Try.f65) (code := f65_code) Try.func65 (by kernel_rfl) (drawsOk_of laidOut orc0_ok mixed (by kernel_rfl)) f65_un f65_un_ok [] (fun _ => rfl)
      (fun x ret => f65_eq k  ret x)

/- catchpole/catchpolelaw2.own -/
noncomputable def f42_I : PV → List SV × Obs := fun x => ([.val 24 x], [])
noncomputable def f42_D : List SV → Obs → Option (PV)
  | [.val 24 p1], [] => some p1
  | _, _ => none
theorem f42_D_ok (args : List SV) (B : Obs) (x : PV) (h : f42_D args B = some x) : f42_I x = (args, B) := by
  unfold f42_D at h
  split at h
  · injection h with h; subst h; rfl
  · cases h
noncomputable def f42_O : PV → Out := (fun y => ([.val 45 y], []))
noncomputable def f42_un : Out → Option (PV)
  | ([.val 45 y0], []) => some y0
  | _ => none
theorem f42_un_ok (o : Out) (y : PV) (h : f42_un o = some y) : o = f42_O y := by
  unfold f42_un at h
  split at h
  · injection h with h; subst h; rfl
  · cases h
noncomputable def f42_msk : Nat → Option (List Nat) := fun key =>  none
noncomputable def f42_C (c65 : PV → (PV → R) → R) : Oracle := orc 65 f65_D f65_O (fun x ret => c65 x (fun y0 => ret y0)) <| orc0
noncomputable def f42_E (k : Nat) (c65 : PV → (PV → R) → R) : Env := { P := Try.prog, nilOwn := fun d => false, fldOwn := fun d i => false, ownPar := ownPars, ownRet := false, mask := f42_msk, fuel := k, C := f42_C c65 }
noncomputable def f42_code : Code := Try.f42.body.getD .skip
noncomputable def f42_e (c65 : PV → (PV → R) → R) (ret0 : PV → R) (p1 : PV) : R :=
  c65 p1 fun p2 =>
  ret0 p2

theorem f42_e_mem (k : Nat) (c65 : PV → (PV → R) → R) (retF : PV → R) (p1 : PV) : exec (f42_E k c65) f42_code (endK (f42_E k c65) Try.f42 [] f42_un retF) ⟨[.val 24 p1, .undef, .undef, .undef, .undef], []⟩ = f42_e c65 (fun y0 => retF y0) p1 := by kernel_rfl

noncomputable def f42_N (k : Nat) (c65 : PV → (PV → R) → R) (ret0 : PV → R) (p1 : PV) : R :=
  f42_e c65 ret0 p1
theorem f42_eq (k : Nat) (c65 : PV → (PV → R) → R) (retF : PV → R) (p1 : PV) : exec (f42_E k c65) f42_code (endK (f42_E k c65) Try.f42 [] f42_un retF) ⟨[.val 24 p1, .undef, .undef, .undef, .undef], []⟩ = f42_N k c65 (fun y0 => retF y0) p1 :=
  (f42_e_mem k c65 retF p1)

noncomputable def G42 : Nat → PV → (PV → R) → R
  | 0, _, _ => none
  | k + 1, p1, ret0 => f42_N k (G65 k) ret0 p1
theorem S42 : ∀ k, Snd Try.prog 42 f42_I f42_O (fun x ret => G42 k x (fun y0 => ret y0))
  | 0 => snd_none
  | k + 1 => snd_step (E := f42_E k (G65 k)) rfl laidOut noNums (orc_ok (S65 k).o f65_D_ok orc0_ok) (f := 42) (fn := Try.f42) (code := f42_code) Try.func42 (by kernel_rfl) (drawsOk_of laidOut (orc_ok (S65 k).o f65_D_ok orc0_ok) mixed (by kernel_rfl)) f42_un f42_un_ok [] (fun _ => rfl)
      (fun x ret => f42_eq k (G65 k) ret x)

/- catchpole/catchpoleref1.Names -/
noncomputable def f44_I : Unit → List SV × Obs := fun x => ([], [])
noncomputable def f44_D : List SV → Obs → Option (Unit)
  | [], [] => some ()
  | _, _ => none
theorem f44_D_ok (args : List SV) (B : Obs) (x : Unit) (h : f44_D args B = some x) : f44_I x = (args, B) := by
  unfold f44_D at h
  split at h
  · injection h with h; subst h; rfl
  · cases h
noncomputable def f44_O : PV → Out := (fun y => ([.val 64 y], []))
noncomputable def f44_un : Out → Option (PV)
  | ([.val 64 y0], []) => some y0
  | _ => none
theorem f44_un_ok (o : Out) (y : PV) (h : f44_un o = some y) : o = f44_O y := by
  unfold f44_un at h
  split at h
  · injection h with h; subst h; rfl
  · cases h
noncomputable def f44_msk : Nat → Option (List Nat) := fun key =>  none
noncomputable def f44_C : Oracle := orc0
noncomputable def f44_E (k : Nat) : Env := { P := Try.prog, nilOwn := fun d => false, fldOwn := fun d i => false, ownPar := ownPars, ownRet := false, mask := f44_msk, fuel := k, C := f44_C }
noncomputable def f44_code : Code := Try.f44.body.getD .skip
noncomputable def f44_e (ret0 : PV → R) : R :=
  ret0 (PV.list [(PV.str [97, 108, 110, 117, 109]), (PV.str [97, 108, 112, 104, 97]), (PV.str [98, 108, 97, 110, 107]), (PV.str [99, 110, 116, 114, 108]), (PV.str [100, 105, 103, 105, 116]), (PV.str [103, 114, 97, 112, 104]), (PV.str [108, 111, 119, 101, 114]), (PV.str [112, 114, 105, 110, 116]), (PV.str [112, 117, 110, 99, 116]), (PV.str [115, 112, 97, 99, 101]), (PV.str [117, 112, 112, 101, 114]), (PV.str [120, 100, 105, 103, 105, 116])])

theorem f44_e_mem (k : Nat) (retF : PV → R) : exec (f44_E k) f44_code (endK (f44_E k) Try.f44 [] f44_un retF) ⟨[.undef, .undef], []⟩ = f44_e (fun y0 => retF y0) := by kernel_rfl

noncomputable def f44_N (k : Nat) (ret0 : PV → R) : R :=
  f44_e ret0
theorem f44_eq (k : Nat) (retF : PV → R) : exec (f44_E k) f44_code (endK (f44_E k) Try.f44 [] f44_un retF) ⟨[.undef, .undef], []⟩ = f44_N k (fun y0 => retF y0) :=
  (f44_e_mem k retF)

noncomputable def G44 : Nat → (PV → R) → R
  | 0, _ => none
  | k + 1, ret0 => f44_N k  ret0 
theorem S44 : ∀ k, Snd Try.prog 44 f44_I f44_O (fun x ret => G44 k (fun y0 => ret y0))
  | 0 => snd_none
  | k + 1 => snd_step (E := f44_E k ) rfl laidOut noNums orc0_ok (f := 44) (fn := Try.f44) (code := f44_code) Try.func44 (by kernel_rfl) (drawsOk_of laidOut orc0_ok mixed (by kernel_rfl)) f44_un f44_un_ok [] (fun _ => rfl)
      (fun x ret => f44_eq k  ret)

/- catchpole/catchpoleref1.Whole -/
noncomputable def f41_I : PV → List SV × Obs := fun x => ([.val 45 x], [])
noncomputable def f41_D : List SV → Obs → Option (PV)
  | [.val 45 p1], [] => some p1
  | _, _ => none
theorem f41_D_ok (args : List SV) (B : Obs) (x : PV) (h : f41_D args B = some x) : f41_I x = (args, B) := by
  unfold f41_D at h
  split at h
  · injection h with h; subst h; rfl
  · cases h
noncomputable def f41_O : (List Int) × Bool → Out := (fun y => ([.str y.1, .bool y.2], []))
noncomputable def f41_un : Out → Option ((List Int) × Bool)
  | ([.str y0, .bool y1], []) => some (y0, y1)
  | _ => none
theorem f41_un_ok (o : Out) (y : (List Int) × Bool) (h : f41_un o = some y) : o = f41_O y := by
  unfold f41_un at h
  split at h
  · injection h with h; subst h; rfl
  · cases h
noncomputable def f41_msk : Nat → Option (List Nat) := fun key => bif key == 9 then some [1, 4, 5] else none
noncomputable def f41_C (c39 : (List Int) → (PV → Bool → R) → R) (c44 : (PV → R) → R) : Oracle := orc 39 f39_D f39_O (fun x ret => c39 x (fun y0 y1 => ret (y0, y1))) <| orc 44 f44_D f44_O (fun x ret => c44 (fun y0 => ret y0)) <| orc0
noncomputable def f41_E (k : Nat) (c39 : (List Int) → (PV → Bool → R) → R) (c44 : (PV → R) → R) : Env := { P := Try.prog, nilOwn := fun d => false, fldOwn := fun d i => false, ownPar := ownPars, ownRet := false, mask := f41_msk, fuel := k, C := f41_C c39 c44 }
noncomputable def f41_code : Code := Try.f41.body.getD .skip
noncomputable def f41_cw1 : Code := subC f41_code [1, 1, 0, 1, 0, 0]
noncomputable def f41_hw1_0 (p1 : PV) (p2 : PV) (n5 : Int) : St := ⟨[.dead, .ptr 1 [], .dead, .dead, .val 64 p2, .int .i64 n5, .dead, .dead, .dead, .dead, .dead, .dead, .dead, .dead, .dead, .dead, .dead, .dead, .dead, .dead, .dead, .dead, .dead, .dead, .dead, .dead, .dead, .dead, .dead, .dead], [(1, .box 45 (.val 45 p1))]⟩
noncomputable def f41_w1A (k : Nat) (c39 : (List Int) → (PV → Bool → R) → R) (c44 : (PV → R) → R) (retF : (List Int) × Bool → R) (p1 : PV) (p2 : PV) (n5 : Int) : R := loopM (f41_E k c39 c44) f41_cw1 (kont (f41_E k c39 c44) f41_code [1, 1, 0, 1, 0] (endK (f41_E k c39 c44) Try.f41 [] f41_un retF)) k (f41_hw1_0 p1 p2 n5)
noncomputable def f41_w1b0 (c39 : (List Int) → (PV → Bool → R) → R) (c44 : (PV → R) → R) (ret0 : (List Int) → Bool → R) (next_w1_0 : Int → R) (p1 : PV) (p2 : PV) (n5 : Int) : R :=
  bif (decide (n5 < (List.length (PV.els p2) : Int))) then
    bif (true && decide ((0 : Int) ≤ n5) && decide (n5 < (List.length (PV.els p2) : Int))) then
      c39 (PV.chars (List.getD (PV.els p2) (n5).toNat PV.nil)) fun p6 b7 =>
      bif (PV.beq p6 p1) then
        bif (true && decide ((0 : Int) ≤ n5) && decide (n5 < (List.length (PV.els p2) : Int))) then
          ret0 (PV.chars (List.getD (PV.els p2) (n5).toNat PV.nil)) true
        else none
      else next_w1_0 (IntKind.wrap .i64 (n5 + (1 : Int)))
    else none
  else ret0 [] false

theorem f41_w1b0_mem (k : Nat) (c39 : (List Int) → (PV → Bool → R) → R) (c44 : (PV → R) → R) (retF : (List Int) × Bool → R) (NX_w1 : St → R) (p1 : PV) (p2 : PV) (n5 : Int) : exec (f41_E k c39 c44) f41_cw1 (purgeK (f41_E k c39 c44) f41_cw1 (loopK NX_w1 (kont (f41_E k c39 c44) f41_code [1, 1, 0, 1, 0] (endK (f41_E k c39 c44) Try.f41 [] f41_un retF)))) (f41_hw1_0 p1 p2 n5) = f41_w1b0 c39 c44 (fun y0 y1 => retF (y0, y1)) (fun n5 => NX_w1 (f41_hw1_0 p1 p2 n5)) p1 p2 n5 := by kernel_rfl

noncomputable def f41_w1b0N (k : Nat) (c39 : (List Int) → (PV → Bool → R) → R) (c44 : (PV → R) → R) (ret0 : (List Int) → Bool → R) (next_w1_0 : Int → R) (p1 : PV) (p2 : PV) (n5 : Int) : R :=
  f41_w1b0 c39 c44 ret0 next_w1_0 p1 p2 n5
theorem f41_w1b0_eq (k : Nat) (c39 : (List Int) → (PV → Bool → R) → R) (c44 : (PV → R) → R) (retF : (List Int) × Bool → R) (NX_w1 : St → R) (p1 : PV) (p2 : PV) (n5 : Int) : exec (f41_E k c39 c44) f41_cw1 (purgeK (f41_E k c39 c44) f41_cw1 (loopK NX_w1 (kont (f41_E k c39 c44) f41_code [1, 1, 0, 1, 0] (endK (f41_E k c39 c44) Try.f41 [] f41_un retF)))) (f41_hw1_0 p1 p2 n5) = f41_w1b0N k c39 c44 (fun y0 y1 => retF (y0, y1)) (fun n5 => NX_w1 (f41_hw1_0 p1 p2 n5)) p1 p2 n5 :=
  (f41_w1b0_mem k c39 c44 retF NX_w1 p1 p2 n5)

noncomputable def f41_w1B (k : Nat) (c39 : (List Int) → (PV → Bool → R) → R) (c44 : (PV → R) → R) (ret0 : (List Int) → Bool → R) (p1 : PV) (p2 : PV) (nx : Int → R) : Int → R := (fun s => f41_w1b0N k c39 c44 ret0 (fun n5 => nx n5) p1 p2 s)
noncomputable def f41_w1N (k : Nat) (c39 : (List Int) → (PV → Bool → R) → R) (c44 : (PV → R) → R) (ret0 : (List Int) → Bool → R) (p1 : PV) (p2 : PV) (n5 : Int) : R := loopR (f41_w1B k c39 c44 ret0 p1 p2) k n5
theorem f41_w1_eq (k : Nat) (c39 : (List Int) → (PV → Bool → R) → R) (c44 : (PV → R) → R) (retF : (List Int) × Bool → R) (p1 : PV) (p2 : PV) (n5 : Int) : f41_w1A k c39 c44 retF p1 p2 n5 = f41_w1N k c39 c44 (fun y0 y1 => retF (y0, y1)) p1 p2 n5 :=
  Eq.mp (by kernel_rfl) (loop_sim (E := (f41_E k c39 c44)) (c := f41_cw1) (K := (kont (f41_E k c39 c44) f41_code [1, 1, 0, 1, 0] (endK (f41_E k c39 c44) Try.f41 [] f41_un retF))) (S := Int) (fun s => f41_hw1_0 p1 p2 s) (f41_w1B k c39 c44 (fun y0 y1 => retF (y0, y1)) p1 p2) (fun NX s => by
    exact Eq.mp (by kernel_rfl) (f41_w1b0_eq k c39 c44 retF NX p1 p2 s)) k n5)

noncomputable def f41_e (c39 : (List Int) → (PV → Bool → R) → R) (c44 : (PV → R) → R) (ret0 : (List Int) → Bool → R) (w1 : PV → Int → R) (p1 : PV) : R :=
  c44 fun p2 =>
  w1 p2 0

theorem f41_e_mem (k : Nat) (c39 : (List Int) → (PV → Bool → R) → R) (c44 : (PV → R) → R) (retF : (List Int) × Bool → R) (p1 : PV) : exec (f41_E k c39 c44) f41_code (endK (f41_E k c39 c44) Try.f41 [] f41_un retF) ⟨[.val 45 p1, .undef, .undef, .undef, .undef, .undef, .undef, .undef, .undef, .undef, .undef, .undef, .undef, .undef, .undef, .undef, .undef, .undef, .undef, .undef, .undef, .undef, .undef, .undef, .undef, .undef, .undef, .undef, .undef, .undef], []⟩ = f41_e c39 c44 (fun y0 y1 => retF (y0, y1)) (fun p2 n5 => f41_w1A k c39 c44 retF p1 p2 n5) p1 := by kernel_rfl

noncomputable def f41_N (k : Nat) (c39 : (List Int) → (PV → Bool → R) → R) (c44 : (PV → R) → R) (ret0 : (List Int) → Bool → R) (p1 : PV) : R :=
  f41_e c39 c44 ret0 (fun p2 n5 => f41_w1N k c39 c44 ret0 p1 p2 n5) p1
theorem f41_eq (k : Nat) (c39 : (List Int) → (PV → Bool → R) → R) (c44 : (PV → R) → R) (retF : (List Int) × Bool → R) (p1 : PV) : exec (f41_E k c39 c44) f41_code (endK (f41_E k c39 c44) Try.f41 [] f41_un retF) ⟨[.val 45 p1, .undef, .undef, .undef, .undef, .undef, .undef, .undef, .undef, .undef, .undef, .undef, .undef, .undef, .undef, .undef, .undef, .undef, .undef, .undef, .undef, .undef, .undef, .undef, .undef, .undef, .undef, .undef, .undef, .undef], []⟩ = f41_N k c39 c44 (fun y0 y1 => retF (y0, y1)) p1 :=
  (f41_e_mem k c39 c44 retF p1).trans (by rw [show (fun p2 n5 => f41_w1A k c39 c44 retF p1 p2 n5) = (fun p2 n5 => f41_w1N k c39 c44 (fun y0 y1 => retF (y0, y1)) p1 p2 n5) from funext fun p2 => funext fun n5 => f41_w1_eq k c39 c44 retF p1 p2 n5]; rfl)

noncomputable def G41 : Nat → PV → ((List Int) → Bool → R) → R
  | 0, _, _ => none
  | k + 1, p1, ret0 => f41_N k (G39 k) (G44 k) ret0 p1
theorem S41 : ∀ k, Snd Try.prog 41 f41_I f41_O (fun x ret => G41 k x (fun y0 y1 => ret (y0, y1)))
  | 0 => snd_none
  | k + 1 => snd_step (E := f41_E k (G39 k) (G44 k)) rfl laidOut noNums (orc_ok (S39 k).o f39_D_ok (orc_ok (S44 k).o f44_D_ok orc0_ok)) (f := 41) (fn := Try.f41) (code := f41_code) Try.func41 (by kernel_rfl) (drawsOk_of laidOut (orc_ok (S39 k).o f39_D_ok (orc_ok (S44 k).o f44_D_ok orc0_ok)) mixed (by kernel_rfl)) f41_un f41_un_ok [] (fun _ => rfl)
      (fun x ret => f41_eq k (G39 k) (G44 k) ret x)

/- catchpole/class.In$1 -/
noncomputable def f71_I : PV × Int → List SV × Obs := fun x => ([.val 24 x.1, .ptr 4000000 []], [(4000000, .box 5 (.int .u8 x.2))])
noncomputable def f71_D : List SV → Obs → Option (PV × Int)
  | [.val 24 p1, .ptr 4000000 []], [(4000000, .box 5 (.int .u8 n2))] => some (p1, n2)
  | _, _ => none
theorem f71_D_ok (args : List SV) (B : Obs) (x : PV × Int) (h : f71_D args B = some x) : f71_I x = (args, B) := by
  unfold f71_D at h
  split at h
  · injection h with h; subst h; rfl
  · cases h
noncomputable def f71_O : Bool × Int → Out := (fun y => ([.bool y.1], [(4000000, .box 5 (.int .u8 y.2))]))
noncomputable def f71_un : Out → Option (Bool × Int)
  | ([.bool y0], [(4000000, .box 5 (.int .u8 y1))]) => some (y0, y1)
  | _ => none
theorem f71_un_ok (o : Out) (y : Bool × Int) (h : f71_un o = some y) : o = f71_O y := by
  unfold f71_un at h
  split at h
  · injection h with h; subst h; rfl
  · cases h
noncomputable def f71_msk : Nat → Option (List Nat) := fun key =>  none
noncomputable def f71_C (c23 : PV → Int → (Bool → R) → R) : Oracle := orc 23 f23_D f23_O (fun x ret => c23 x.1 x.2 (fun y0 => ret y0)) <| orc0
noncomputable def f71_E (k : Nat) (c23 : PV → Int → (Bool → R) → R) : Env := { P := Try.prog, nilOwn := fun d => false, fldOwn := fun d i => false, ownPar := ownPars, ownRet := false, mask := f71_msk, fuel := k, C := f71_C c23 }
noncomputable def f71_code : Code := Try.f71.body.getD .skip
noncomputable def f71_e (c23 : PV → Int → (Bool → R) → R) (ret0 : Bool → Int → R) (p1 : PV) (n2 : Int) : R :=
  c23 p1 n2 fun b3 =>
  ret0 b3 n2

theorem f71_e_mem (k : Nat) (c23 : PV → Int → (Bool → R) → R) (retF : Bool × Int → R) (p1 : PV) (n2 : Int) : exec (f71_E k c23) f71_code (endK (f71_E k c23) Try.f71 [4000000] f71_un retF) ⟨[.val 24 p1, .ptr 4000000 [], .undef, .undef, .undef, .undef, .undef], [(4000000, .box 5 (.int .u8 n2))]⟩ = f71_e c23 (fun y0 y1 => retF (y0, y1)) p1 n2 := by kernel_rfl

noncomputable def f71_N (k : Nat) (c23 : PV → Int → (Bool → R) → R) (ret0 : Bool → Int → R) (p1 : PV) (n2 : Int) : R :=
  f71_e c23 ret0 p1 n2
theorem f71_eq (k : Nat) (c23 : PV → Int → (Bool → R) → R) (retF : Bool × Int → R) (p1 : PV) (n2 : Int) : exec (f71_E k c23) f71_code (endK (f71_E k c23) Try.f71 [4000000] f71_un retF) ⟨[.val 24 p1, .ptr 4000000 [], .undef, .undef, .undef, .undef, .undef], [(4000000, .box 5 (.int .u8 n2))]⟩ = f71_N k c23 (fun y0 y1 => retF (y0, y1)) p1 n2 :=
  (f71_e_mem k c23 retF p1 n2)

noncomputable def G71 : Nat → PV → Int → (Bool → Int → R) → R
  | 0, _, _, _ => none
  | k + 1, p1, n2, ret0 => f71_N k (G23 k) ret0 p1 n2
theorem S71 : ∀ k, Snd Try.prog 71 f71_I f71_O (fun x ret => G71 k x.1 x.2 (fun y0 y1 => ret (y0, y1)))
  | 0 => snd_none
  | k + 1 => snd_step (E := f71_E k (G23 k)) rfl laidOut noNums (orc_ok (S23 k).o f23_D_ok orc0_ok) (f := 71) (fn := Try.f71) (code := f71_code) Try.func71 (by kernel_rfl) (drawsOk_of laidOut (orc_ok (S23 k).o f23_D_ok orc0_ok) mixed (by kernel_rfl)) f71_un f71_un_ok [4000000] (fun _ => rfl)
      (fun x ret => f71_eq k (G23 k) ret x.1 x.2)

/- catchpole/class.those -/
noncomputable def f69v2_I : Int → List SV × Obs := fun x => ([.fn 71 [.ptr 2001000 []]], [(2001000, .box 5 (.int .u8 x))])
noncomputable def f69v2_D : List SV → Obs → Option (Int)
  | [.fn 71 [.ptr 2001000 []]], [(2001000, .box 5 (.int .u8 n1))] => some n1
  | _, _ => none
theorem f69v2_D_ok (args : List SV) (B : Obs) (x : Int) (h : f69v2_D args B = some x) : f69v2_I x = (args, B) := by
  unfold f69v2_D at h
  split at h
  · injection h with h; subst h; rfl
  · cases h
noncomputable def f69v2_O : PV × Int → Out := (fun y => ([.val 64 y.1], [(2001000, .box 5 (.int .u8 y.2))]))
noncomputable def f69v2_un : Out → Option (PV × Int)
  | ([.val 64 y0], [(2001000, .box 5 (.int .u8 y1))]) => some (y0, y1)
  | _ => none
theorem f69v2_un_ok (o : Out) (y : PV × Int) (h : f69v2_un o = some y) : o = f69v2_O y := by
  unfold f69v2_un at h
  split at h
  · injection h with h; subst h; rfl
  · cases h
noncomputable def f69v2_msk : Nat → Option (List Nat) := fun key => bif key == 9 then some [0, 3, 6, 7, 8] else none
noncomputable def f69v2_C (c66 : (PV → R) → R) (c71 : PV → Int → (Bool → Int → R) → R) : Oracle := orc 66 f66_D f66_O (fun x ret => c66 (fun y0 => ret y0)) <| orc 71 f71_D f71_O (fun x ret => c71 x.1 x.2 (fun y0 y1 => ret (y0, y1))) <| orc0
noncomputable def f69v2_E (k : Nat) (c66 : (PV → R) → R) (c71 : PV → Int → (Bool → Int → R) → R) : Env := { P := Try.prog, nilOwn := fun d => d == 3, fldOwn := fun d i => false, ownPar := ownPars, ownRet := false, mask := f69v2_msk, fuel := k, C := f69v2_C c66 c71 }
noncomputable def f69v2_code : Code := Try.f69.body.getD .skip
noncomputable def f69v2_cw1 : Code := subC f69v2_code [1, 1, 0, 1, 0, 0]
noncomputable def f69v2_hw1_0 (p2 : PV) (n5 : Int) (l6 : List PV) (n7 : Int) : St := ⟨[.fn 71 [.ptr 2001000 []], .dead, .dead, .own 64 3, .dead, .dead, .val 97 p2, .int .i64 (List.length (PV.els p2) : Int), .int .i64 n5, .dead, .dead, .dead, .dead, .dead, .dead, .dead, .dead, .dead, .dead, .dead, .dead, .dead, .dead], [(3, .row 9 l6), (2001000, .box 5 (.int .u8 n7))]⟩
noncomputable def f69v2_w1A (k : Nat) (c66 : (PV → R) → R) (c71 : PV → Int → (Bool → Int → R) → R) (retF : PV × Int → R) (p2 : PV) (n5 : Int) (l6 : List PV) (n7 : Int) : R := loopM (f69v2_E k c66 c71) f69v2_cw1 (kont (f69v2_E k c66 c71) f69v2_code [1, 1, 0, 1, 0] (endK (f69v2_E k c66 c71) Try.f69 [2001000] f69v2_un retF)) k (f69v2_hw1_0 p2 n5 l6 n7)
noncomputable def f69v2_w1b0 (c66 : (PV → R) → R) (c71 : PV → Int → (Bool → Int → R) → R) (ret0 : PV → Int → R) (next_w1_0 : Int → (List PV) → Int → R) (p2 : PV) (n5 : Int) (l6 : List PV) (n7 : Int) : R :=
  bif (decide (n5 < (List.length (PV.els p2) : Int))) then
    bif (true && decide ((0 : Int) ≤ n5) && decide (n5 < (List.length (PV.els p2) : Int))) then
      c71 (PV.fld (List.getD (PV.els p2) (n5).toNat PV.nil) 1) n7 fun b8 n9 =>
      bif b8 then
        bif (true && roomy (List.length l6 + List.length [(PV.str (PV.chars (PV.fld (List.getD (PV.els p2) (n5).toNat PV.nil) 0)))]) 16) then
          next_w1_0 (IntKind.wrap .i64 (n5 + (1 : Int))) (l6 ++ [(PV.str (PV.chars (PV.fld (List.getD (PV.els p2) (n5).toNat PV.nil) 0)))]) n9
        else none
      else next_w1_0 (IntKind.wrap .i64 (n5 + (1 : Int))) l6 n9
    else none
  else ret0 (PV.list l6) n7

theorem f69v2_w1b0_mem (k : Nat) (c66 : (PV → R) → R) (c71 : PV → Int → (Bool → Int → R) → R) (retF : PV × Int → R) (NX_w1 : St → R) (p2 : PV) (n5 : Int) (l6 : List PV) (n7 : Int) : exec (f69v2_E k c66 c71) f69v2_cw1 (purgeK (f69v2_E k c66 c71) f69v2_cw1 (loopK NX_w1 (kont (f69v2_E k c66 c71) f69v2_code [1, 1, 0, 1, 0] (endK (f69v2_E k c66 c71) Try.f69 [2001000] f69v2_un retF)))) (f69v2_hw1_0 p2 n5 l6 n7) = f69v2_w1b0 c66 c71 (fun y0 y1 => retF (y0, y1)) (fun n5 l6 n7 => NX_w1 (f69v2_hw1_0 p2 n5 l6 n7)) p2 n5 l6 n7 := by kernel_rfl

noncomputable def f69v2_w1b0N (k : Nat) (c66 : (PV → R) → R) (c71 : PV → Int → (Bool → Int → R) → R) (ret0 : PV → Int → R) (next_w1_0 : Int → (List PV) → Int → R) (p2 : PV) (n5 : Int) (l6 : List PV) (n7 : Int) : R :=
  f69v2_w1b0 c66 c71 ret0 next_w1_0 p2 n5 l6 n7
theorem f69v2_w1b0_eq (k : Nat) (c66 : (PV → R) → R) (c71 : PV → Int → (Bool → Int → R) → R) (retF : PV × Int → R) (NX_w1 : St → R) (p2 : PV) (n5 : Int) (l6 : List PV) (n7 : Int) : exec (f69v2_E k c66 c71) f69v2_cw1 (purgeK (f69v2_E k c66 c71) f69v2_cw1 (loopK NX_w1 (kont (f69v2_E k c66 c71) f69v2_code [1, 1, 0, 1, 0] (endK (f69v2_E k c66 c71) Try.f69 [2001000] f69v2_un retF)))) (f69v2_hw1_0 p2 n5 l6 n7) = f69v2_w1b0N k c66 c71 (fun y0 y1 => retF (y0, y1)) (fun n5 l6 n7 => NX_w1 (f69v2_hw1_0 p2 n5 l6 n7)) p2 n5 l6 n7 :=
  (f69v2_w1b0_mem k c66 c71 retF NX_w1 p2 n5 l6 n7)

noncomputable def f69v2_w1B (k : Nat) (c66 : (PV → R) → R) (c71 : PV → Int → (Bool → Int → R) → R) (ret0 : PV → Int → R) (p2 : PV) (nx : Int × (List PV) × Int → R) : Int × (List PV) × Int → R := (fun s => f69v2_w1b0N k c66 c71 ret0 (fun n5 l6 n7 => nx (n5, l6, n7)) p2 s.1 s.2.1 s.2.2)
noncomputable def f69v2_w1N (k : Nat) (c66 : (PV → R) → R) (c71 : PV → Int → (Bool → Int → R) → R) (ret0 : PV → Int → R) (p2 : PV) (n5 : Int) (l6 : List PV) (n7 : Int) : R := loopR (f69v2_w1B k c66 c71 ret0 p2) k (n5, l6, n7)
theorem f69v2_w1_eq (k : Nat) (c66 : (PV → R) → R) (c71 : PV → Int → (Bool → Int → R) → R) (retF : PV × Int → R) (p2 : PV) (n5 : Int) (l6 : List PV) (n7 : Int) : f69v2_w1A k c66 c71 retF p2 n5 l6 n7 = f69v2_w1N k c66 c71 (fun y0 y1 => retF (y0, y1)) p2 n5 l6 n7 :=
  Eq.mp (by kernel_rfl) (loop_sim (E := (f69v2_E k c66 c71)) (c := f69v2_cw1) (K := (kont (f69v2_E k c66 c71) f69v2_code [1, 1, 0, 1, 0] (endK (f69v2_E k c66 c71) Try.f69 [2001000] f69v2_un retF))) (S := Int × (List PV) × Int) (fun s => f69v2_hw1_0 p2 s.1 s.2.1 s.2.2) (f69v2_w1B k c66 c71 (fun y0 y1 => retF (y0, y1)) p2) (fun NX s => by
    exact Eq.mp (by kernel_rfl) (f69v2_w1b0_eq k c66 c71 retF NX p2 s.1 s.2.1 s.2.2)) k (n5, l6, n7))

noncomputable def f69v2_e (c66 : (PV → R) → R) (c71 : PV → Int → (Bool → Int → R) → R) (ret0 : PV → Int → R) (w1 : PV → Int → (List PV) → Int → R) (n1 : Int) : R :=
  c66 fun p2 =>
  w1 p2 0 [] n1

theorem f69v2_e_mem (k : Nat) (c66 : (PV → R) → R) (c71 : PV → Int → (Bool → Int → R) → R) (retF : PV × Int → R) (n1 : Int) : exec (f69v2_E k c66 c71) f69v2_code (endK (f69v2_E k c66 c71) Try.f69 [2001000] f69v2_un retF) ⟨[.fn 71 [.ptr 2001000 []], .undef, .undef, .undef, .undef, .undef, .undef, .undef, .undef, .undef, .undef, .undef, .undef, .undef, .undef, .undef, .undef, .undef, .undef, .undef, .undef, .undef, .undef], [(2001000, .box 5 (.int .u8 n1))]⟩ = f69v2_e c66 c71 (fun y0 y1 => retF (y0, y1)) (fun p2 n5 l6 n7 => f69v2_w1A k c66 c71 retF p2 n5 l6 n7) n1 := by kernel_rfl

noncomputable def f69v2_N (k : Nat) (c66 : (PV → R) → R) (c71 : PV → Int → (Bool → Int → R) → R) (ret0 : PV → Int → R) (n1 : Int) : R :=
  f69v2_e c66 c71 ret0 (fun p2 n5 l6 n7 => f69v2_w1N k c66 c71 ret0 p2 n5 l6 n7) n1
theorem f69v2_eq (k : Nat) (c66 : (PV → R) → R) (c71 : PV → Int → (Bool → Int → R) → R) (retF : PV × Int → R) (n1 : Int) : exec (f69v2_E k c66 c71) f69v2_code (endK (f69v2_E k c66 c71) Try.f69 [2001000] f69v2_un retF) ⟨[.fn 71 [.ptr 2001000 []], .undef, .undef, .undef, .undef, .undef, .undef, .undef, .undef, .undef, .undef, .undef, .undef, .undef, .undef, .undef, .undef, .undef, .undef, .undef, .undef, .undef, .undef], [(2001000, .box 5 (.int .u8 n1))]⟩ = f69v2_N k c66 c71 (fun y0 y1 => retF (y0, y1)) n1 :=
  (f69v2_e_mem k c66 c71 retF n1).trans (by rw [show (fun p2 n5 l6 n7 => f69v2_w1A k c66 c71 retF p2 n5 l6 n7) = (fun p2 n5 l6 n7 => f69v2_w1N k c66 c71 (fun y0 y1 => retF (y0, y1)) p2 n5 l6 n7) from funext fun p2 => funext fun n5 => funext fun l6 => funext fun n7 => f69v2_w1_eq k c66 c71 retF p2 n5 l6 n7]; rfl)

noncomputable def G69v2 : Nat → Int → (PV → Int → R) → R
  | 0, _, _ => none
  | k + 1, n1, ret0 => f69v2_N k (G66 k) (G71 k) ret0 n1
theorem S69v2 : ∀ k, Snd Try.prog 69 f69v2_I f69v2_O (fun x ret => G69v2 k x (fun y0 y1 => ret (y0, y1)))
  | 0 => snd_none
  | k + 1 => snd_step (E := f69v2_E k (G66 k) (G71 k)) rfl laidOut noNums (orc_ok (S66 k).o f66_D_ok (orc_ok (S71 k).o f71_D_ok orc0_ok)) (f := 69) (fn := Try.f69) (code := f69v2_code) Try.func69 (by kernel_rfl) (drawsOk_of laidOut (orc_ok (S66 k).o f66_D_ok (orc_ok (S71 k).o f71_D_ok orc0_ok)) mixed (by kernel_rfl)) f69v2_un f69v2_un_ok [2001000] (fun _ => rfl)
      (fun x ret => f69v2_eq k (G66 k) (G71 k) ret x)

/- catchpole/class.In -/
noncomputable def f43_I : Int → List SV × Obs := fun x => ([.int .u8 x], [])
noncomputable def f43_D : List SV → Obs → Option (Int)
  | [.int .u8 n1], [] => some n1
  | _, _ => none
theorem f43_D_ok (args : List SV) (B : Obs) (x : Int) (h : f43_D args B = some x) : f43_I x = (args, B) := by
  unfold f43_D at h
  split at h
  · injection h with h; subst h; rfl
  · cases h
noncomputable def f43_O : PV → Out := (fun y => ([.val 64 y], []))
noncomputable def f43_un : Out → Option (PV)
  | ([.val 64 y0], []) => some y0
  | _ => none
theorem f43_un_ok (o : Out) (y : PV) (h : f43_un o = some y) : o = f43_O y := by
  unfold f43_un at h
  split at h
  · injection h with h; subst h; rfl
  · cases h
noncomputable def f43_msk : Nat → Option (List Nat) := fun key =>  none
noncomputable def f43_C (c69v2 : Int → (PV → Int → R) → R) : Oracle := orc 69 f69v2_D f69v2_O (fun x ret => c69v2 x (fun y0 y1 => ret (y0, y1))) <| orc0
noncomputable def f43_E (k : Nat) (c69v2 : Int → (PV → Int → R) → R) : Env := { P := Try.prog, nilOwn := fun d => false, fldOwn := fun d i => false, ownPar := ownPars, ownRet := false, mask := f43_msk, fuel := k, C := f43_C c69v2 }
noncomputable def f43_code : Code := Try.f43.body.getD .skip
noncomputable def f43_e (c69v2 : Int → (PV → Int → R) → R) (ret0 : PV → R) (n1 : Int) : R :=
  c69v2 n1 fun p2 n3 =>
  ret0 p2

theorem f43_e_mem (k : Nat) (c69v2 : Int → (PV → Int → R) → R) (retF : PV → R) (n1 : Int) : exec (f43_E k c69v2) f43_code (endK (f43_E k c69v2) Try.f43 [] f43_un retF) ⟨[.int .u8 n1, .undef, .undef, .undef, .undef], []⟩ = f43_e c69v2 (fun y0 => retF y0) n1 := by kernel_rfl

noncomputable def f43_N (k : Nat) (c69v2 : Int → (PV → Int → R) → R) (ret0 : PV → R) (n1 : Int) : R :=
  f43_e c69v2 ret0 n1
theorem f43_eq (k : Nat) (c69v2 : Int → (PV → Int → R) → R) (retF : PV → R) (n1 : Int) : exec (f43_E k c69v2) f43_code (endK (f43_E k c69v2) Try.f43 [] f43_un retF) ⟨[.int .u8 n1, .undef, .undef, .undef, .undef], []⟩ = f43_N k c69v2 (fun y0 => retF y0) n1 :=
  (f43_e_mem k c69v2 retF n1)

noncomputable def G43 : Nat → Int → (PV → R) → R
  | 0, _, _ => none
  | k + 1, n1, ret0 => f43_N k (G69v2 k) ret0 n1
theorem S43 : ∀ k, Snd Try.prog 43 f43_I f43_O (fun x ret => G43 k x (fun y0 => ret y0))
  | 0 => snd_none
  | k + 1 => snd_step (E := f43_E k (G69v2 k)) rfl laidOut noNums (orc_ok (S69v2 k).o f69v2_D_ok orc0_ok) (f := 43) (fn := Try.f43) (code := f43_code) Try.func43 (by kernel_rfl) (drawsOk_of laidOut (orc_ok (S69v2 k).o f69v2_D_ok orc0_ok) mixed (by kernel_rfl)) f43_un f43_un_ok [] (fun _ => rfl)
      (fun x ret => f43_eq k (G69v2 k) ret x)

/- catchpole/catchpolelaw2.ClassSays -/
noncomputable def f9_I : (List Int) × PV × Int → List SV × Obs := fun x => ([.str x.1, .val 24 x.2.1, .int .u8 x.2.2], [])
noncomputable def f9_D : List SV → Obs → Option ((List Int) × PV × Int)
  | [.str s1, .val 24 p2, .int .u8 n3], [] => some (s1, p2, n3)
  | _, _ => none
theorem f9_D_ok (args : List SV) (B : Obs) (x : (List Int) × PV × Int) (h : f9_D args B = some x) : f9_I x = (args, B) := by
  unfold f9_D at h
  split at h
  · injection h with h; subst h; rfl
  · cases h
noncomputable def f9_O : Bool → Out := (fun y => ([.bool y], []))
noncomputable def f9_un : Out → Option (Bool)
  | ([.bool y0], []) => some y0
  | _ => none
theorem f9_un_ok (o : Out) (y : Bool) (h : f9_un o = some y) : o = f9_O y := by
  unfold f9_un at h
  split at h
  · injection h with h; subst h; rfl
  · cases h
noncomputable def f9_msk : Nat → Option (List Nat) := fun key => bif key == 33 then some [2, 7, 8, 9, 10, 11, 12, 13, 14, 15, 16, 17, 18] else none
noncomputable def f9_C (c37 : (Bool → R) → R) (c38 : (List Int) → (PV → Bool → R) → R) (c39 : (List Int) → (PV → Bool → R) → R) (c40 : PV → ((List Int) → Bool → R) → R) (c41 : PV → ((List Int) → Bool → R) → R) (c42 : PV → (PV → R) → R) (c43 : Int → (PV → R) → R) (c44 : (PV → R) → R) : Oracle := orc 37 f37_D f37_O (fun x ret => c37 (fun y0 => ret y0)) <| orc 38 f38_D f38_O (fun x ret => c38 x (fun y0 y1 => ret (y0, y1))) <| orc 39 f39_D f39_O (fun x ret => c39 x (fun y0 y1 => ret (y0, y1))) <| orc 40 f40_D f40_O (fun x ret => c40 x (fun y0 y1 => ret (y0, y1))) <| orc 41 f41_D f41_O (fun x ret => c41 x (fun y0 y1 => ret (y0, y1))) <| orc 42 f42_D f42_O (fun x ret => c42 x (fun y0 => ret y0)) <| orc 43 f43_D f43_O (fun x ret => c43 x (fun y0 => ret y0)) <| orc 44 f44_D f44_O (fun x ret => c44 (fun y0 => ret y0)) <| orc0
noncomputable def f9_E (k : Nat) (c37 : (Bool → R) → R) (c38 : (List Int) → (PV → Bool → R) → R) (c39 : (List Int) → (PV → Bool → R) → R) (c40 : PV → ((List Int) → Bool → R) → R) (c41 : PV → ((List Int) → Bool → R) → R) (c42 : PV → (PV → R) → R) (c43 : Int → (PV → R) → R) (c44 : (PV → R) → R) : Env := { P := Try.prog, nilOwn := fun d => false, fldOwn := fun d i => false, ownPar := ownPars, ownRet := false, mask := f9_msk, fuel := k, C := f9_C c37 c38 c39 c40 c41 c42 c43 c44 }
noncomputable def f9_code : Code := Try.f9.body.getD .skip
noncomputable def f9_cw1 : Code := subC f9_code [1, 1, 1, 1, 1, 1, 1, 1, 1, 0, 1, 0, 0]
noncomputable def f9_hw1_0 (n3 : Int) (p5 : PV) (b6 : Bool) (p7 : PV) (b8 : Bool) (s9 : List Int) (b10 : Bool) (s12 : List Int) (b13 : Bool) (p14 : PV) (p15 : PV) (n20 : Int) (n21 : Int) : St := ⟨[.dead, .dead, .int .u8 n3, .dead, .dead, .dead, .dead, .ptr 7 [], .bool b6, .ptr 9 [], .bool b8, .str s9, .bool b10, .str s12, .bool b13, .val 64 p14, .int .i64 n20, .val 64 p15, .int .i64 n21, .dead, .dead, .dead, .dead, .dead, .dead, .dead, .dead, .dead, .dead, .dead, .dead, .dead, .dead, .dead, .dead, .dead, .dead, .dead, .dead, .dead, .dead, .dead, .dead, .dead, .dead, .dead, .dead, .dead, .dead, .dead, .dead, .dead, .dead, .dead, .dead, .dead, .dead, .dead, .dead, .dead, .dead, .dead, .dead, .dead, .dead, .dead, .dead, .dead, .dead, .dead, .dead, .dead, .dead, .dead, .dead, .dead, .dead, .dead, .dead, .dead, .dead, .dead, .dead, .dead, .dead, .dead, .dead, .dead, .dead, .dead, .dead, .dead, .dead, .dead, .dead, .dead, .dead, .dead, .dead, .dead, .dead, .dead, .dead, .dead, .dead, .dead], [(7, .box 24 (.val 24 p5)), (9, .box 45 (.val 45 p7))]⟩
noncomputable def f9_w1A (k : Nat) (c37 : (Bool → R) → R) (c38 : (List Int) → (PV → Bool → R) → R) (c39 : (List Int) → (PV → Bool → R) → R) (c40 : PV → ((List Int) → Bool → R) → R) (c41 : PV → ((List Int) → Bool → R) → R) (c42 : PV → (PV → R) → R) (c43 : Int → (PV → R) → R) (c44 : (PV → R) → R) (retF : Bool → R) (n3 : Int) (p5 : PV) (b6 : Bool) (p7 : PV) (b8 : Bool) (s9 : List Int) (b10 : Bool) (s12 : List Int) (b13 : Bool) (p14 : PV) (p15 : PV) (n20 : Int) (n21 : Int) : R := loopM (f9_E k c37 c38 c39 c40 c41 c42 c43 c44) f9_cw1 (kont (f9_E k c37 c38 c39 c40 c41 c42 c43 c44) f9_code [1, 1, 1, 1, 1, 1, 1, 1, 1, 0, 1, 0] (endK (f9_E k c37 c38 c39 c40 c41 c42 c43 c44) Try.f9 [] f9_un retF)) k (f9_hw1_0 n3 p5 b6 p7 b8 s9 b10 s12 b13 p14 p15 n20 n21)
noncomputable def f9_w1b0 (c37 : (Bool → R) → R) (c38 : (List Int) → (PV → Bool → R) → R) (c39 : (List Int) → (PV → Bool → R) → R) (c40 : PV → ((List Int) → Bool → R) → R) (c41 : PV → ((List Int) → Bool → R) → R) (c42 : PV → (PV → R) → R) (c43 : Int → (PV → R) → R) (c44 : (PV → R) → R) (ret0 : Bool → R) (next_w1_0 : Int → Int → R) (n3 : Int) (p5 : PV) (b6 : Bool) (p7 : PV) (b8 : Bool) (s9 : List Int) (b10 : Bool) (s12 : List Int) (b13 : Bool) (p14 : PV) (p15 : PV) (n20 : Int) (n21 : Int) : R :=
  bif (decide (n21 < (List.length (PV.els p15) : Int))) then
    bif (true && decide ((0 : Int) ≤ n21) && decide (n21 < (List.length (PV.els p15) : Int))) then
      c39 (PV.chars (List.getD (PV.els p15) (n21).toNat PV.nil)) fun p22 b23 =>
      bif (true && decide ((0 : Int) ≤ n3) && decide (n3 < 256)) then
        bif (PV.tt (PV.fld p22 (n3).toNat)) then
          bif ((decide ((List.length (PV.els p14) : Int) ≤ n20)) == false) then
            bif (true && decide ((0 : Int) ≤ n20) && decide (n20 < (List.length (PV.els p14) : Int))) then
              bif (true && decide ((0 : Int) ≤ n21) && decide (n21 < (List.length (PV.els p15) : Int))) then
                let b24 : Bool := (!(decide (((PV.chars (List.getD (PV.els p14) (n20).toNat PV.nil)) : List Int) = (PV.chars (List.getD (PV.els p15) (n21).toNat PV.nil)))))
                bif b24 then
                  ret0 false
                else next_w1_0 (IntKind.wrap .i64 (n20 + (1 : Int))) (IntKind.wrap .i64 (n21 + (1 : Int)))
              else none
            else none
          else ret0 false
        else next_w1_0 n20 (IntKind.wrap .i64 (n21 + (1 : Int)))
      else none
    else none
  else c42 p5 fun p25 =>
  bif ((PV.beq p25 p7) == true) then
    bif ((b6 == b8) == true) then
      bif ((decide ((s9 : List Int) = s12)) == true) then
        bif ((b10 == b13) == true) then
          ret0 (decide (n20 = (List.length (PV.els p14) : Int)))
        else ret0 false
      else ret0 false
    else ret0 false
  else ret0 false

theorem f9_w1b0_mem (k : Nat) (c37 : (Bool → R) → R) (c38 : (List Int) → (PV → Bool → R) → R) (c39 : (List Int) → (PV → Bool → R) → R) (c40 : PV → ((List Int) → Bool → R) → R) (c41 : PV → ((List Int) → Bool → R) → R) (c42 : PV → (PV → R) → R) (c43 : Int → (PV → R) → R) (c44 : (PV → R) → R) (retF : Bool → R) (NX_w1 : St → R) (n3 : Int) (p5 : PV) (b6 : Bool) (p7 : PV) (b8 : Bool) (s9 : List Int) (b10 : Bool) (s12 : List Int) (b13 : Bool) (p14 : PV) (p15 : PV) (n20 : Int) (n21 : Int) : exec (f9_E k c37 c38 c39 c40 c41 c42 c43 c44) f9_cw1 (purgeK (f9_E k c37 c38 c39 c40 c41 c42 c43 c44) f9_cw1 (loopK NX_w1 (kont (f9_E k c37 c38 c39 c40 c41 c42 c43 c44) f9_code [1, 1, 1, 1, 1, 1, 1, 1, 1, 0, 1, 0] (endK (f9_E k c37 c38 c39 c40 c41 c42 c43 c44) Try.f9 [] f9_un retF)))) (f9_hw1_0 n3 p5 b6 p7 b8 s9 b10 s12 b13 p14 p15 n20 n21) = f9_w1b0 c37 c38 c39 c40 c41 c42 c43 c44 (fun y0 => retF y0) (fun n20 n21 => NX_w1 (f9_hw1_0 n3 p5 b6 p7 b8 s9 b10 s12 b13 p14 p15 n20 n21)) n3 p5 b6 p7 b8 s9 b10 s12 b13 p14 p15 n20 n21 := by kernel_rfl

noncomputable def f9_w1b0N (k : Nat) (c37 : (Bool → R) → R) (c38 : (List Int) → (PV → Bool → R) → R) (c39 : (List Int) → (PV → Bool → R) → R) (c40 : PV → ((List Int) → Bool → R) → R) (c41 : PV → ((List Int) → Bool → R) → R) (c42 : PV → (PV → R) → R) (c43 : Int → (PV → R) → R) (c44 : (PV → R) → R) (ret0 : Bool → R) (next_w1_0 : Int → Int → R) (n3 : Int) (p5 : PV) (b6 : Bool) (p7 : PV) (b8 : Bool) (s9 : List Int) (b10 : Bool) (s12 : List Int) (b13 : Bool) (p14 : PV) (p15 : PV) (n20 : Int) (n21 : Int) : R :=
  f9_w1b0 c37 c38 c39 c40 c41 c42 c43 c44 ret0 next_w1_0 n3 p5 b6 p7 b8 s9 b10 s12 b13 p14 p15 n20 n21
theorem f9_w1b0_eq (k : Nat) (c37 : (Bool → R) → R) (c38 : (List Int) → (PV → Bool → R) → R) (c39 : (List Int) → (PV → Bool → R) → R) (c40 : PV → ((List Int) → Bool → R) → R) (c41 : PV → ((List Int) → Bool → R) → R) (c42 : PV → (PV → R) → R) (c43 : Int → (PV → R) → R) (c44 : (PV → R) → R) (retF : Bool → R) (NX_w1 : St → R) (n3 : Int) (p5 : PV) (b6 : Bool) (p7 : PV) (b8 : Bool) (s9 : List Int) (b10 : Bool) (s12 : List Int) (b13 : Bool) (p14 : PV) (p15 : PV) (n20 : Int) (n21 : Int) : exec (f9_E k c37 c38 c39 c40 c41 c42 c43 c44) f9_cw1 (purgeK (f9_E k c37 c38 c39 c40 c41 c42 c43 c44) f9_cw1 (loopK NX_w1 (kont (f9_E k c37 c38 c39 c40 c41 c42 c43 c44) f9_code [1, 1, 1, 1, 1, 1, 1, 1, 1, 0, 1, 0] (endK (f9_E k c37 c38 c39 c40 c41 c42 c43 c44) Try.f9 [] f9_un retF)))) (f9_hw1_0 n3 p5 b6 p7 b8 s9 b10 s12 b13 p14 p15 n20 n21) = f9_w1b0N k c37 c38 c39 c40 c41 c42 c43 c44 (fun y0 => retF y0) (fun n20 n21 => NX_w1 (f9_hw1_0 n3 p5 b6 p7 b8 s9 b10 s12 b13 p14 p15 n20 n21)) n3 p5 b6 p7 b8 s9 b10 s12 b13 p14 p15 n20 n21 :=
  (f9_w1b0_mem k c37 c38 c39 c40 c41 c42 c43 c44 retF NX_w1 n3 p5 b6 p7 b8 s9 b10 s12 b13 p14 p15 n20 n21)

noncomputable def f9_w1B (k : Nat) (c37 : (Bool → R) → R) (c38 : (List Int) → (PV → Bool → R) → R) (c39 : (List Int) → (PV → Bool → R) → R) (c40 : PV → ((List Int) → Bool → R) → R) (c41 : PV → ((List Int) → Bool → R) → R) (c42 : PV → (PV → R) → R) (c43 : Int → (PV → R) → R) (c44 : (PV → R) → R) (ret0 : Bool → R) (n3 : Int) (p5 : PV) (b6 : Bool) (p7 : PV) (b8 : Bool) (s9 : List Int) (b10 : Bool) (s12 : List Int) (b13 : Bool) (p14 : PV) (p15 : PV) (nx : Int × Int → R) : Int × Int → R := (fun s => f9_w1b0N k c37 c38 c39 c40 c41 c42 c43 c44 ret0 (fun n20 n21 => nx (n20, n21)) n3 p5 b6 p7 b8 s9 b10 s12 b13 p14 p15 s.1 s.2)
noncomputable def f9_w1N (k : Nat) (c37 : (Bool → R) → R) (c38 : (List Int) → (PV → Bool → R) → R) (c39 : (List Int) → (PV → Bool → R) → R) (c40 : PV → ((List Int) → Bool → R) → R) (c41 : PV → ((List Int) → Bool → R) → R) (c42 : PV → (PV → R) → R) (c43 : Int → (PV → R) → R) (c44 : (PV → R) → R) (ret0 : Bool → R) (n3 : Int) (p5 : PV) (b6 : Bool) (p7 : PV) (b8 : Bool) (s9 : List Int) (b10 : Bool) (s12 : List Int) (b13 : Bool) (p14 : PV) (p15 : PV) (n20 : Int) (n21 : Int) : R := loopR (f9_w1B k c37 c38 c39 c40 c41 c42 c43 c44 ret0 n3 p5 b6 p7 b8 s9 b10 s12 b13 p14 p15) k (n20, n21)
theorem f9_w1_eq (k : Nat) (c37 : (Bool → R) → R) (c38 : (List Int) → (PV → Bool → R) → R) (c39 : (List Int) → (PV → Bool → R) → R) (c40 : PV → ((List Int) → Bool → R) → R) (c41 : PV → ((List Int) → Bool → R) → R) (c42 : PV → (PV → R) → R) (c43 : Int → (PV → R) → R) (c44 : (PV → R) → R) (retF : Bool → R) (n3 : Int) (p5 : PV) (b6 : Bool) (p7 : PV) (b8 : Bool) (s9 : List Int) (b10 : Bool) (s12 : List Int) (b13 : Bool) (p14 : PV) (p15 : PV) (n20 : Int) (n21 : Int) : f9_w1A k c37 c38 c39 c40 c41 c42 c43 c44 retF n3 p5 b6 p7 b8 s9 b10 s12 b13 p14 p15 n20 n21 = f9_w1N k c37 c38 c39 c40 c41 c42 c43 c44 (fun y0 => retF y0) n3 p5 b6 p7 b8 s9 b10 s12 b13 p14 p15 n20 n21 :=
  Eq.mp (by kernel_rfl) (loop_sim (E := (f9_E k c37 c38 c39 c40 c41 c42 c43 c44)) (c := f9_cw1) (K := (kont (f9_E k c37 c38 c39 c40 c41 c42 c43 c44) f9_code [1, 1, 1, 1, 1, 1, 1, 1, 1, 0, 1, 0] (endK (f9_E k c37 c38 c39 c40 c41 c42 c43 c44) Try.f9 [] f9_un retF))) (S := Int × Int) (fun s => f9_hw1_0 n3 p5 b6 p7 b8 s9 b10 s12 b13 p14 p15 s.1 s.2) (f9_w1B k c37 c38 c39 c40 c41 c42 c43 c44 (fun y0 => retF y0) n3 p5 b6 p7 b8 s9 b10 s12 b13 p14 p15) (fun NX s => by
    exact Eq.mp (by kernel_rfl) (f9_w1b0_eq k c37 c38 c39 c40 c41 c42 c43 c44 retF NX n3 p5 b6 p7 b8 s9 b10 s12 b13 p14 p15 s.1 s.2)) k (n20, n21))

noncomputable def f9_e (c37 : (Bool → R) → R) (c38 : (List Int) → (PV → Bool → R) → R) (c39 : (List Int) → (PV → Bool → R) → R) (c40 : PV → ((List Int) → Bool → R) → R) (c41 : PV → ((List Int) → Bool → R) → R) (c42 : PV → (PV → R) → R) (c43 : Int → (PV → R) → R) (c44 : (PV → R) → R) (ret0 : Bool → R) (w1 : PV → Bool → PV → Bool → (List Int) → Bool → (List Int) → Bool → PV → PV → Int → Int → R) (s1 : List Int) (p2 : PV) (n3 : Int) : R :=
  c37 fun b4 =>
  bif (!b4) then
    ret0 false
  else c38 s1 fun p5 b6 =>
  c39 s1 fun p7 b8 =>
  c40 p2 fun s9 b10 =>
  c42 p2 fun p11 =>
  c41 p11 fun s12 b13 =>
  c43 n3 fun p14 =>
  c44 fun p15 =>
  w1 p5 b6 p7 b8 s9 b10 s12 b13 p14 p15 0 0

theorem f9_e_mem (k : Nat) (c37 : (Bool → R) → R) (c38 : (List Int) → (PV → Bool → R) → R) (c39 : (List Int) → (PV → Bool → R) → R) (c40 : PV → ((List Int) → Bool → R) → R) (c41 : PV → ((List Int) → Bool → R) → R) (c42 : PV → (PV → R) → R) (c43 : Int → (PV → R) → R) (c44 : (PV → R) → R) (retF : Bool → R) (s1 : List Int) (p2 : PV) (n3 : Int) : exec (f9_E k c37 c38 c39 c40 c41 c42 c43 c44) f9_code (endK (f9_E k c37 c38 c39 c40 c41 c42 c43 c44) Try.f9 [] f9_un retF) ⟨[.str s1, .val 24 p2, .int .u8 n3, .undef, .undef, .undef, .undef, .undef, .undef, .undef, .undef, .undef, .undef, .undef, .undef, .undef, .undef, .undef, .undef, .undef, .undef, .undef, .undef, .undef, .undef, .undef, .undef, .undef, .undef, .undef, .undef, .undef, .undef, .undef, .undef, .undef, .undef, .undef, .undef, .undef, .undef, .undef, .undef, .undef, .undef, .undef, .undef, .undef, .undef, .undef, .undef, .undef, .undef, .undef, .undef, .undef, .undef, .undef, .undef, .undef, .undef, .undef, .undef, .undef, .undef, .undef, .undef, .undef, .undef, .undef, .undef, .undef, .undef, .undef, .undef, .undef, .undef, .undef, .undef, .undef, .undef, .undef, .undef, .undef, .undef, .undef, .undef, .undef, .undef, .undef, .undef, .undef, .undef, .undef, .undef, .undef, .undef, .undef, .undef, .undef, .undef, .undef, .undef, .undef, .undef, .undef], []⟩ = f9_e c37 c38 c39 c40 c41 c42 c43 c44 (fun y0 => retF y0) (fun p5 b6 p7 b8 s9 b10 s12 b13 p14 p15 n20 n21 => f9_w1A k c37 c38 c39 c40 c41 c42 c43 c44 retF n3 p5 b6 p7 b8 s9 b10 s12 b13 p14 p15 n20 n21) s1 p2 n3 := by kernel_rfl

noncomputable def f9_N (k : Nat) (c37 : (Bool → R) → R) (c38 : (List Int) → (PV → Bool → R) → R) (c39 : (List Int) → (PV → Bool → R) → R) (c40 : PV → ((List Int) → Bool → R) → R) (c41 : PV → ((List Int) → Bool → R) → R) (c42 : PV → (PV → R) → R) (c43 : Int → (PV → R) → R) (c44 : (PV → R) → R) (ret0 : Bool → R) (s1 : List Int) (p2 : PV) (n3 : Int) : R :=
  f9_e c37 c38 c39 c40 c41 c42 c43 c44 ret0 (fun p5 b6 p7 b8 s9 b10 s12 b13 p14 p15 n20 n21 => f9_w1N k c37 c38 c39 c40 c41 c42 c43 c44 ret0 n3 p5 b6 p7 b8 s9 b10 s12 b13 p14 p15 n20 n21) s1 p2 n3
theorem f9_eq (k : Nat) (c37 : (Bool → R) → R) (c38 : (List Int) → (PV → Bool → R) → R) (c39 : (List Int) → (PV → Bool → R) → R) (c40 : PV → ((List Int) → Bool → R) → R) (c41 : PV → ((List Int) → Bool → R) → R) (c42 : PV → (PV → R) → R) (c43 : Int → (PV → R) → R) (c44 : (PV → R) → R) (retF : Bool → R) (s1 : List Int) (p2 : PV) (n3 : Int) : exec (f9_E k c37 c38 c39 c40 c41 c42 c43 c44) f9_code (endK (f9_E k c37 c38 c39 c40 c41 c42 c43 c44) Try.f9 [] f9_un retF) ⟨[.str s1, .val 24 p2, .int .u8 n3, .undef, .undef, .undef, .undef, .undef, .undef, .undef, .undef, .undef, .undef, .undef, .undef, .undef, .undef, .undef, .undef, .undef, .undef, .undef, .undef, .undef, .undef, .undef, .undef, .undef, .undef, .undef, .undef, .undef, .undef, .undef, .undef, .undef, .undef, .undef, .undef, .undef, .undef, .undef, .undef, .undef, .undef, .undef, .undef, .undef, .undef, .undef, .undef, .undef, .undef, .undef, .undef, .undef, .undef, .undef, .undef, .undef, .undef, .undef, .undef, .undef, .undef, .undef, .undef, .undef, .undef, .undef, .undef, .undef, .undef, .undef, .undef, .undef, .undef, .undef, .undef, .undef, .undef, .undef, .undef, .undef, .undef, .undef, .undef, .undef, .undef, .undef, .undef, .undef, .undef, .undef, .undef, .undef, .undef, .undef, .undef, .undef, .undef, .undef, .undef, .undef, .undef, .undef], []⟩ = f9_N k c37 c38 c39 c40 c41 c42 c43 c44 (fun y0 => retF y0) s1 p2 n3 :=
  (f9_e_mem k c37 c38 c39 c40 c41 c42 c43 c44 retF s1 p2 n3).trans (by rw [show (fun p5 b6 p7 b8 s9 b10 s12 b13 p14 p15 n20 n21 => f9_w1A k c37 c38 c39 c40 c41 c42 c43 c44 retF n3 p5 b6 p7 b8 s9 b10 s12 b13 p14 p15 n20 n21) = (fun p5 b6 p7 b8 s9 b10 s12 b13 p14 p15 n20 n21 => f9_w1N k c37 c38 c39 c40 c41 c42 c43 c44 (fun y0 => retF y0) n3 p5 b6 p7 b8 s9 b10 s12 b13 p14 p15 n20 n21) from funext fun p5 => funext fun b6 => funext fun p7 => funext fun b8 => funext fun s9 => funext fun b10 => funext fun s12 => funext fun b13 => funext fun p14 => funext fun p15 => funext fun n20 => funext fun n21 => f9_w1_eq k c37 c38 c39 c40 c41 c42 c43 c44 retF n3 p5 b6 p7 b8 s9 b10 s12 b13 p14 p15 n20 n21]; rfl)

noncomputable def G9 : Nat → (List Int) → PV → Int → (Bool → R) → R
  | 0, _, _, _, _ => none
  | k + 1, s1, p2, n3, ret0 => f9_N k (G37 k) (G38 k) (G39 k) (G40 k) (G41 k) (G42 k) (G43 k) (G44 k) ret0 s1 p2 n3
theorem S9 : ∀ k, Snd Try.prog 9 f9_I f9_O (fun x ret => G9 k x.1 x.2.1 x.2.2 (fun y0 => ret y0))
  | 0 => snd_none
  | k + 1 => snd_step (E := f9_E k (G37 k) (G38 k) (G39 k) (G40 k) (G41 k) (G42 k) (G43 k) (G44 k)) rfl laidOut noNums (orc_ok (S37 k).o f37_D_ok (orc_ok (S38 k).o f38_D_ok (orc_ok (S39 k).o f39_D_ok (orc_ok (S40 k).o f40_D_ok (orc_ok (S41 k).o f41_D_ok (orc_ok (S42 k).o f42_D_ok (orc_ok (S43 k).o f43_D_ok (orc_ok (S44 k).o f44_D_ok orc0_ok)))))))) (f := 9) (fn := Try.f9) (code := f9_code) Try.func9 (by kernel_rfl) (drawsOk_of laidOut (orc_ok (S37 k).o f37_D_ok (orc_ok (S38 k).o f38_D_ok (orc_ok (S39 k).o f39_D_ok (orc_ok (S40 k).o f40_D_ok (orc_ok (S41 k).o f41_D_ok (orc_ok (S42 k).o f42_D_ok (orc_ok (S43 k).o f43_D_ok (orc_ok (S44 k).o f44_D_ok orc0_ok)))))))) mixed (by kernel_rfl)) f9_un f9_un_ok [] (fun _ => rfl)
      (fun x ret => f9_eq k (G37 k) (G38 k) (G39 k) (G40 k) (G41 k) (G42 k) (G43 k) (G44 k) ret x.1 x.2.1 x.2.2)

/- catchpole/byteset.All -/
noncomputable def f20_I : Unit → List SV × Obs := fun x => ([], [])
noncomputable def f20_D : List SV → Obs → Option (Unit)
  | [], [] => some ()
  | _, _ => none
theorem f20_D_ok (args : List SV) (B : Obs) (x : Unit) (h : f20_D args B = some x) : f20_I x = (args, B) := by
  unfold f20_D at h
  split at h
  · injection h with h; subst h; rfl
  · cases h
noncomputable def f20_O : PV → Out := (fun y => ([.val 24 y], []))
noncomputable def f20_un : Out → Option (PV)
  | ([.val 24 y0], []) => some y0
  | _ => none
theorem f20_un_ok (o : Out) (y : PV) (h : f20_un o = some y) : o = f20_O y := by
  unfold f20_un at h
  split at h
  · injection h with h; subst h; rfl
  · cases h
noncomputable def f20_msk : Nat → Option (List Nat) := fun key =>  none
noncomputable def f20_C (c21 : PV → (PV → R) → R) : Oracle := orc 21 f21_D f21_O (fun x ret => c21 x (fun y0 => ret y0)) <| orc0
noncomputable def f20_E (k : Nat) (c21 : PV → (PV → R) → R) : Env := { P := Try.prog, nilOwn := fun d => false, fldOwn := fun d i => false, ownPar := ownPars, ownRet := false, mask := f20_msk, fuel := k, C := f20_C c21 }
noncomputable def f20_code : Code := Try.f20.body.getD .skip
noncomputable def f20_e (c21 : PV → (PV → R) → R) (ret0 : PV → R) : R :=
  c21 (PV.agg [(PV.int 0), (PV.int 0), (PV.int 0), (PV.int 0)]) fun p1 =>
  ret0 p1

theorem f20_e_mem (k : Nat) (c21 : PV → (PV → R) → R) (retF : PV → R) : exec (f20_E k c21) f20_code (endK (f20_E k c21) Try.f20 [] f20_un retF) ⟨[.undef, .undef, .undef], []⟩ = f20_e c21 (fun y0 => retF y0) := by kernel_rfl

noncomputable def f20_N (k : Nat) (c21 : PV → (PV → R) → R) (ret0 : PV → R) : R :=
  f20_e c21 ret0
theorem f20_eq (k : Nat) (c21 : PV → (PV → R) → R) (retF : PV → R) : exec (f20_E k c21) f20_code (endK (f20_E k c21) Try.f20 [] f20_un retF) ⟨[.undef, .undef, .undef], []⟩ = f20_N k c21 (fun y0 => retF y0) :=
  (f20_e_mem k c21 retF)

noncomputable def G20 : Nat → (PV → R) → R
  | 0, _ => none
  | k + 1, ret0 => f20_N k (G21 k) ret0 
theorem S20 : ∀ k, Snd Try.prog 20 f20_I f20_O (fun x ret => G20 k (fun y0 => ret y0))
  | 0 => snd_none
  | k + 1 => snd_step (E := f20_E k (G21 k)) rfl laidOut noNums (orc_ok (S21 k).o f21_D_ok orc0_ok) (f := 20) (fn := Try.f20) (code := f20_code) Try.func20 (by kernel_rfl) (drawsOk_of laidOut (orc_ok (S21 k).o f21_D_ok orc0_ok) mixed (by kernel_rfl)) f20_un f20_un_ok [] (fun _ => rfl)
      (fun x ret => f20_eq k (G21 k) ret)

/- catchpole/catchpolelaw2.ClassKnown -/
noncomputable def f10_I : Unit → List SV × Obs := fun x => ([], [])
noncomputable def f10_D : List SV → Obs → Option (Unit)
  | [], [] => some ()
  | _, _ => none
theorem f10_D_ok (args : List SV) (B : Obs) (x : Unit) (h : f10_D args B = some x) : f10_I x = (args, B) := by
  unfold f10_D at h
  split at h
  · injection h with h; subst h; rfl
  · cases h
noncomputable def f10_O : Bool → Out := (fun y => ([.bool y], []))
noncomputable def f10_un : Out → Option (Bool)
  | ([.bool y0], []) => some y0
  | _ => none
theorem f10_un_ok (o : Out) (y : Bool) (h : f10_un o = some y) : o = f10_O y := by
  unfold f10_un at h
  split at h
  · injection h with h; subst h; rfl
  · cases h
noncomputable def f10_msk : Nat → Option (List Nat) := fun key => bif key == 15 then some [1, 2, 3] else none
noncomputable def f10_C (c18 : PV → (PV → R) → R) (c20 : (PV → R) → R) (c37 : (Bool → R) → R) (c38 : (List Int) → (PV → Bool → R) → R) (c39 : (List Int) → (PV → Bool → R) → R) (c40 : PV → ((List Int) → Bool → R) → R) (c42 : PV → (PV → R) → R) (c43 : Int → (PV → R) → R) (c44 : (PV → R) → R) (c45 : (PV → R) → R) : Oracle := orc 18 f18_D f18_O (fun x ret => c18 x (fun y0 => ret y0)) <| orc 20 f20_D f20_O (fun x ret => c20 (fun y0 => ret y0)) <| orc 37 f37_D f37_O (fun x ret => c37 (fun y0 => ret y0)) <| orc 38 f38_D f38_O (fun x ret => c38 x (fun y0 y1 => ret (y0, y1))) <| orc 39 f39_D f39_O (fun x ret => c39 x (fun y0 y1 => ret (y0, y1))) <| orc 40 f40_D f40_O (fun x ret => c40 x (fun y0 y1 => ret (y0, y1))) <| orc 42 f42_D f42_O (fun x ret => c42 x (fun y0 => ret y0)) <| orc 43 f43_D f43_O (fun x ret => c43 x (fun y0 => ret y0)) <| orc 44 f44_D f44_O (fun x ret => c44 (fun y0 => ret y0)) <| orc 45 f45_D f45_O (fun x ret => c45 (fun y0 => ret y0)) <| orc0
noncomputable def f10_E (k : Nat) (c18 : PV → (PV → R) → R) (c20 : (PV → R) → R) (c37 : (Bool → R) → R) (c38 : (List Int) → (PV → Bool → R) → R) (c39 : (List Int) → (PV → Bool → R) → R) (c40 : PV → ((List Int) → Bool → R) → R) (c42 : PV → (PV → R) → R) (c43 : Int → (PV → R) → R) (c44 : (PV → R) → R) (c45 : (PV → R) → R) : Env := { P := Try.prog, nilOwn := fun d => false, fldOwn := fun d i => false, ownPar := ownPars, ownRet := false, mask := f10_msk, fuel := k, C := f10_C c18 c20 c37 c38 c39 c40 c42 c43 c44 c45 }
noncomputable def f10_code : Code := Try.f10.body.getD .skip
noncomputable def f10_cw1 : Code := subC f10_code [1, 1, 1, 0, 1, 0, 0]
noncomputable def f10_hw1_0 (p2 : PV) (p3 : PV) (n29 : Int) : St := ⟨[.dead, .val 64 p2, .val 64 p3, .int .i64 n29, .dead, .dead, .dead, .dead, .dead, .dead, .dead, .dead, .dead, .dead, .dead, .dead, .dead, .dead, .dead, .dead, .dead, .dead, .dead, .dead, .dead, .dead, .dead, .dead, .dead, .dead, .dead, .dead, .dead, .dead, .dead, .dead, .dead, .dead, .dead, .dead, .dead, .dead, .dead, .dead, .dead, .dead, .dead, .dead, .dead, .dead, .dead, .dead, .dead, .dead, .dead, .dead, .dead, .dead, .dead, .dead, .dead, .dead, .dead, .dead, .dead, .dead, .dead, .dead, .dead, .dead, .dead, .dead, .dead, .dead, .dead, .dead, .dead, .dead, .dead, .dead, .dead, .dead, .dead, .dead, .dead, .dead, .dead, .dead, .dead, .dead, .dead, .dead, .dead, .dead, .dead, .dead, .dead, .dead, .dead, .dead, .dead, .dead, .dead, .dead, .dead, .dead, .dead, .dead, .dead, .dead, .dead, .dead, .dead, .dead, .dead, .dead, .dead, .dead, .dead, .dead, .dead, .dead, .dead, .dead, .dead, .dead, .dead, .dead, .dead, .dead, .dead, .dead, .dead, .dead, .dead, .dead, .dead, .dead, .dead, .dead, .dead, .dead, .dead, .dead, .dead, .dead, .dead, .dead, .dead, .dead, .dead], []⟩
noncomputable def f10_w1A (k : Nat) (c18 : PV → (PV → R) → R) (c20 : (PV → R) → R) (c37 : (Bool → R) → R) (c38 : (List Int) → (PV → Bool → R) → R) (c39 : (List Int) → (PV → Bool → R) → R) (c40 : PV → ((List Int) → Bool → R) → R) (c42 : PV → (PV → R) → R) (c43 : Int → (PV → R) → R) (c44 : (PV → R) → R) (c45 : (PV → R) → R) (retF : Bool → R) (p2 : PV) (p3 : PV) (n29 : Int) : R := loopM (f10_E k c18 c20 c37 c38 c39 c40 c42 c43 c44 c45) f10_cw1 (kont (f10_E k c18 c20 c37 c38 c39 c40 c42 c43 c44 c45) f10_code [1, 1, 1, 0, 1, 0] (endK (f10_E k c18 c20 c37 c38 c39 c40 c42 c43 c44 c45) Try.f10 [] f10_un retF)) k (f10_hw1_0 p2 p3 n29)
noncomputable def f10_w1b0 (c18 : PV → (PV → R) → R) (c20 : (PV → R) → R) (c37 : (Bool → R) → R) (c38 : (List Int) → (PV → Bool → R) → R) (c39 : (List Int) → (PV → Bool → R) → R) (c40 : PV → ((List Int) → Bool → R) → R) (c42 : PV → (PV → R) → R) (c43 : Int → (PV → R) → R) (c44 : (PV → R) → R) (c45 : (PV → R) → R) (ret0 : Bool → R) (next_w1_0 : Int → R) (p2 : PV) (p3 : PV) (n29 : Int) : R :=
  bif (decide (n29 < (List.length (PV.els p3) : Int))) then
    bif (true && decide ((0 : Int) ≤ n29) && decide (n29 < (List.length (PV.els p3) : Int))) then
      c38 (PV.chars (List.getD (PV.els p3) (n29).toNat PV.nil)) fun p30 b31 =>
      bif (true && decide ((0 : Int) ≤ n29) && decide (n29 < (List.length (PV.els p3) : Int))) then
        c39 (PV.chars (List.getD (PV.els p3) (n29).toNat PV.nil)) fun p32 b33 =>
        c40 p30 fun s34 b35 =>
        bif (true && decide ((0 : Int) ≤ n29) && decide (n29 < (List.length (PV.els p2) : Int))) then
          bif (true && decide ((0 : Int) ≤ n29) && decide (n29 < (List.length (PV.els p3) : Int))) then
            let b36 : Bool := (!(decide (((PV.chars (List.getD (PV.els p2) (n29).toNat PV.nil)) : List Int) = (PV.chars (List.getD (PV.els p3) (n29).toNat PV.nil)))))
            bif (b36 == false) then
              bif ((!b31) == false) then
                c42 p30 fun p37 =>
                bif ((!(PV.beq p37 p32)) == false) then
                  bif ((!b35) == false) then
                    bif (true && decide ((0 : Int) ≤ n29) && decide (n29 < (List.length (PV.els p3) : Int))) then
                      bif (!(decide ((s34 : List Int) = (PV.chars (List.getD (PV.els p3) (n29).toNat PV.nil))))) then
                        ret0 false
                      else next_w1_0 (IntKind.wrap .i64 (n29 + (1 : Int)))
                    else none
                  else ret0 false
                else ret0 false
              else ret0 false
            else ret0 false
          else none
        else none
      else none
    else none
  else c38 [119, 111, 114, 100] fun p38 b39 =>
  c38 [] fun p40 b41 =>
  c38 [65, 76, 80, 72, 65] fun p42 b43 =>
  c20 fun p44 =>
  c40 p44 fun s45 b46 =>
  c18 (PV.list []) fun p47 =>
  c40 p47 fun s48 b49 =>
  c43 97 fun p50 =>
  bif ((!b39) == true) then
    bif ((!b41) == true) then
      bif ((!b43) == true) then
        bif ((!b46) == true) then
          bif ((!b49) == true) then
            c43 200 fun p51 =>
            bif ((decide ((List.length (PV.els p51) : Int) = (0 : Int))) == true) then
              bif ((decide ((List.length (PV.els p50) : Int) = (6 : Int))) == true) then
                bif (true && decide ((0 : Int) ≤ (0 : Int)) && decide ((0 : Int) < (List.length (PV.els p50) : Int))) then
                  let b52 : Bool := (decide (((PV.chars (List.getD (PV.els p50) ((0 : Int)).toNat PV.nil)) : List Int) = [97, 108, 110, 117, 109]))
                  bif (b52 == true) then
                    bif (true && decide ((0 : Int) ≤ (5 : Int)) && decide ((5 : Int) < (List.length (PV.els p50) : Int))) then
                      let b53 : Bool := (decide (((PV.chars (List.getD (PV.els p50) ((5 : Int)).toNat PV.nil)) : List Int) = [120, 100, 105, 103, 105, 116]))
                      bif (b53 == true) then
                        c43 9 fun p54 =>
                        ret0 (decide ((List.length (PV.els p54) : Int) = (3 : Int)))
                      else ret0 false
                    else none
                  else ret0 false
                else none
              else ret0 false
            else ret0 false
          else ret0 false
        else ret0 false
      else ret0 false
    else ret0 false
  else ret0 false

theorem f10_w1b0_mem (k : Nat) (c18 : PV → (PV → R) → R) (c20 : (PV → R) → R) (c37 : (Bool → R) → R) (c38 : (List Int) → (PV → Bool → R) → R) (c39 : (List Int) → (PV → Bool → R) → R) (c40 : PV → ((List Int) → Bool → R) → R) (c42 : PV → (PV → R) → R) (c43 : Int → (PV → R) → R) (c44 : (PV → R) → R) (c45 : (PV → R) → R) (retF : Bool → R) (NX_w1 : St → R) (p2 : PV) (p3 : PV) (n29 : Int) : exec (f10_E k c18 c20 c37 c38 c39 c40 c42 c43 c44 c45) f10_cw1 (purgeK (f10_E k c18 c20 c37 c38 c39 c40 c42 c43 c44 c45) f10_cw1 (loopK NX_w1 (kont (f10_E k c18 c20 c37 c38 c39 c40 c42 c43 c44 c45) f10_code [1, 1, 1, 0, 1, 0] (endK (f10_E k c18 c20 c37 c38 c39 c40 c42 c43 c44 c45) Try.f10 [] f10_un retF)))) (f10_hw1_0 p2 p3 n29) = f10_w1b0 c18 c20 c37 c38 c39 c40 c42 c43 c44 c45 (fun y0 => retF y0) (fun n29 => NX_w1 (f10_hw1_0 p2 p3 n29)) p2 p3 n29 := by kernel_rfl

noncomputable def f10_w1b0N (k : Nat) (c18 : PV → (PV → R) → R) (c20 : (PV → R) → R) (c37 : (Bool → R) → R) (c38 : (List Int) → (PV → Bool → R) → R) (c39 : (List Int) → (PV → Bool → R) → R) (c40 : PV → ((List Int) → Bool → R) → R) (c42 : PV → (PV → R) → R) (c43 : Int → (PV → R) → R) (c44 : (PV → R) → R) (c45 : (PV → R) → R) (ret0 : Bool → R) (next_w1_0 : Int → R) (p2 : PV) (p3 : PV) (n29 : Int) : R :=
  f10_w1b0 c18 c20 c37 c38 c39 c40 c42 c43 c44 c45 ret0 next_w1_0 p2 p3 n29
theorem f10_w1b0_eq (k : Nat) (c18 : PV → (PV → R) → R) (c20 : (PV → R) → R) (c37 : (Bool → R) → R) (c38 : (List Int) → (PV → Bool → R) → R) (c39 : (List Int) → (PV → Bool → R) → R) (c40 : PV → ((List Int) → Bool → R) → R) (c42 : PV → (PV → R) → R) (c43 : Int → (PV → R) → R) (c44 : (PV → R) → R) (c45 : (PV → R) → R) (retF : Bool → R) (NX_w1 : St → R) (p2 : PV) (p3 : PV) (n29 : Int) : exec (f10_E k c18 c20 c37 c38 c39 c40 c42 c43 c44 c45) f10_cw1 (purgeK (f10_E k c18 c20 c37 c38 c39 c40 c42 c43 c44 c45) f10_cw1 (loopK NX_w1 (kont (f10_E k c18 c20 c37 c38 c39 c40 c42 c43 c44 c45) f10_code [1, 1, 1, 0, 1, 0] (endK (f10_E k c18 c20 c37 c38 c39 c40 c42 c43 c44 c45) Try.f10 [] f10_un retF)))) (f10_hw1_0 p2 p3 n29) = f10_w1b0N k c18 c20 c37 c38 c39 c40 c42 c43 c44 c45 (fun y0 => retF y0) (fun n29 => NX_w1 (f10_hw1_0 p2 p3 n29)) p2 p3 n29 :=
  (f10_w1b0_mem k c18 c20 c37 c38 c39 c40 c42 c43 c44 c45 retF NX_w1 p2 p3 n29)

noncomputable def f10_w1B (k : Nat) (c18 : PV → (PV → R) → R) (c20 : (PV → R) → R) (c37 : (Bool → R) → R) (c38 : (List Int) → (PV → Bool → R) → R) (c39 : (List Int) → (PV → Bool → R) → R) (c40 : PV → ((List Int) → Bool → R) → R) (c42 : PV → (PV → R) → R) (c43 : Int → (PV → R) → R) (c44 : (PV → R) → R) (c45 : (PV → R) → R) (ret0 : Bool → R) (p2 : PV) (p3 : PV) (nx : Int → R) : Int → R := (fun s => f10_w1b0N k c18 c20 c37 c38 c39 c40 c42 c43 c44 c45 ret0 (fun n29 => nx n29) p2 p3 s)
noncomputable def f10_w1N (k : Nat) (c18 : PV → (PV → R) → R) (c20 : (PV → R) → R) (c37 : (Bool → R) → R) (c38 : (List Int) → (PV → Bool → R) → R) (c39 : (List Int) → (PV → Bool → R) → R) (c40 : PV → ((List Int) → Bool → R) → R) (c42 : PV → (PV → R) → R) (c43 : Int → (PV → R) → R) (c44 : (PV → R) → R) (c45 : (PV → R) → R) (ret0 : Bool → R) (p2 : PV) (p3 : PV) (n29 : Int) : R := loopR (f10_w1B k c18 c20 c37 c38 c39 c40 c42 c43 c44 c45 ret0 p2 p3) k n29
theorem f10_w1_eq (k : Nat) (c18 : PV → (PV → R) → R) (c20 : (PV → R) → R) (c37 : (Bool → R) → R) (c38 : (List Int) → (PV → Bool → R) → R) (c39 : (List Int) → (PV → Bool → R) → R) (c40 : PV → ((List Int) → Bool → R) → R) (c42 : PV → (PV → R) → R) (c43 : Int → (PV → R) → R) (c44 : (PV → R) → R) (c45 : (PV → R) → R) (retF : Bool → R) (p2 : PV) (p3 : PV) (n29 : Int) : f10_w1A k c18 c20 c37 c38 c39 c40 c42 c43 c44 c45 retF p2 p3 n29 = f10_w1N k c18 c20 c37 c38 c39 c40 c42 c43 c44 c45 (fun y0 => retF y0) p2 p3 n29 :=
  Eq.mp (by kernel_rfl) (loop_sim (E := (f10_E k c18 c20 c37 c38 c39 c40 c42 c43 c44 c45)) (c := f10_cw1) (K := (kont (f10_E k c18 c20 c37 c38 c39 c40 c42 c43 c44 c45) f10_code [1, 1, 1, 0, 1, 0] (endK (f10_E k c18 c20 c37 c38 c39 c40 c42 c43 c44 c45) Try.f10 [] f10_un retF))) (S := Int) (fun s => f10_hw1_0 p2 p3 s) (f10_w1B k c18 c20 c37 c38 c39 c40 c42 c43 c44 c45 (fun y0 => retF y0) p2 p3) (fun NX s => by
    exact Eq.mp (by kernel_rfl) (f10_w1b0_eq k c18 c20 c37 c38 c39 c40 c42 c43 c44 c45 retF NX p2 p3 s)) k n29)

noncomputable def f10_e (c18 : PV → (PV → R) → R) (c20 : (PV → R) → R) (c37 : (Bool → R) → R) (c38 : (List Int) → (PV → Bool → R) → R) (c39 : (List Int) → (PV → Bool → R) → R) (c40 : PV → ((List Int) → Bool → R) → R) (c42 : PV → (PV → R) → R) (c43 : Int → (PV → R) → R) (c44 : (PV → R) → R) (c45 : (PV → R) → R) (ret0 : Bool → R) (w1 : PV → PV → Int → R) : R :=
  c37 fun b1 =>
  bif (!b1) then
    ret0 false
  else c45 fun p2 =>
  c44 fun p3 =>
  w1 p2 p3 0

theorem f10_e_mem (k : Nat) (c18 : PV → (PV → R) → R) (c20 : (PV → R) → R) (c37 : (Bool → R) → R) (c38 : (List Int) → (PV → Bool → R) → R) (c39 : (List Int) → (PV → Bool → R) → R) (c40 : PV → ((List Int) → Bool → R) → R) (c42 : PV → (PV → R) → R) (c43 : Int → (PV → R) → R) (c44 : (PV → R) → R) (c45 : (PV → R) → R) (retF : Bool → R) : exec (f10_E k c18 c20 c37 c38 c39 c40 c42 c43 c44 c45) f10_code (endK (f10_E k c18 c20 c37 c38 c39 c40 c42 c43 c44 c45) Try.f10 [] f10_un retF) ⟨[.undef, .undef, .undef, .undef, .undef, .undef, .undef, .undef, .undef, .undef, .undef, .undef, .undef, .undef, .undef, .undef, .undef, .undef, .undef, .undef, .undef, .undef, .undef, .undef, .undef, .undef, .undef, .undef, .undef, .undef, .undef, .undef, .undef, .undef, .undef, .undef, .undef, .undef, .undef, .undef, .undef, .undef, .undef, .undef, .undef, .undef, .undef, .undef, .undef, .undef, .undef, .undef, .undef, .undef, .undef, .undef, .undef, .undef, .undef, .undef, .undef, .undef, .undef, .undef, .undef, .undef, .undef, .undef, .undef, .undef, .undef, .undef, .undef, .undef, .undef, .undef, .undef, .undef, .undef, .undef, .undef, .undef, .undef, .undef, .undef, .undef, .undef, .undef, .undef, .undef, .undef, .undef, .undef, .undef, .undef, .undef, .undef, .undef, .undef, .undef, .undef, .undef, .undef, .undef, .undef, .undef, .undef, .undef, .undef, .undef, .undef, .undef, .undef, .undef, .undef, .undef, .undef, .undef, .undef, .undef, .undef, .undef, .undef, .undef, .undef, .undef, .undef, .undef, .undef, .undef, .undef, .undef, .undef, .undef, .undef, .undef, .undef, .undef, .undef, .undef, .undef, .undef, .undef, .undef, .undef, .undef, .undef, .undef, .undef, .undef, .undef], []⟩ = f10_e c18 c20 c37 c38 c39 c40 c42 c43 c44 c45 (fun y0 => retF y0) (fun p2 p3 n29 => f10_w1A k c18 c20 c37 c38 c39 c40 c42 c43 c44 c45 retF p2 p3 n29) := by kernel_rfl

noncomputable def f10_N (k : Nat) (c18 : PV → (PV → R) → R) (c20 : (PV → R) → R) (c37 : (Bool → R) → R) (c38 : (List Int) → (PV → Bool → R) → R) (c39 : (List Int) → (PV → Bool → R) → R) (c40 : PV → ((List Int) → Bool → R) → R) (c42 : PV → (PV → R) → R) (c43 : Int → (PV → R) → R) (c44 : (PV → R) → R) (c45 : (PV → R) → R) (ret0 : Bool → R) : R :=
  f10_e c18 c20 c37 c38 c39 c40 c42 c43 c44 c45 ret0 (fun p2 p3 n29 => f10_w1N k c18 c20 c37 c38 c39 c40 c42 c43 c44 c45 ret0 p2 p3 n29)
theorem f10_eq (k : Nat) (c18 : PV → (PV → R) → R) (c20 : (PV → R) → R) (c37 : (Bool → R) → R) (c38 : (List Int) → (PV → Bool → R) → R) (c39 : (List Int) → (PV → Bool → R) → R) (c40 : PV → ((List Int) → Bool → R) → R) (c42 : PV → (PV → R) → R) (c43 : Int → (PV → R) → R) (c44 : (PV → R) → R) (c45 : (PV → R) → R) (retF : Bool → R) : exec (f10_E k c18 c20 c37 c38 c39 c40 c42 c43 c44 c45) f10_code (endK (f10_E k c18 c20 c37 c38 c39 c40 c42 c43 c44 c45) Try.f10 [] f10_un retF) ⟨[.undef, .undef, .undef, .undef, .undef, .undef, .undef, .undef, .undef, .undef, .undef, .undef, .undef, .undef, .undef, .undef, .undef, .undef, .undef, .undef, .undef, .undef, .undef, .undef, .undef, .undef, .undef, .undef, .undef, .undef, .undef, .undef, .undef, .undef, .undef, .undef, .undef, .undef, .undef, .undef, .undef, .undef, .undef, .undef, .undef, .undef, .undef, .undef, .undef, .undef, .undef, .undef, .undef, .undef, .undef, .undef, .undef, .undef, .undef, .undef, .undef, .undef, .undef, .undef, .undef, .undef, .undef, .undef, .undef, .undef, .undef, .undef, .undef, .undef, .undef, .undef, .undef, .undef, .undef, .undef, .undef, .undef, .undef, .undef, .undef, .undef, .undef, .undef, .undef, .undef, .undef, .undef, .undef, .undef, .undef, .undef, .undef, .undef, .undef, .undef, .undef, .undef, .undef, .undef, .undef, .undef, .undef, .undef, .undef, .undef, .undef, .undef, .undef, .undef, .undef, .undef, .undef, .undef, .undef, .undef, .undef, .undef, .undef, .undef, .undef, .undef, .undef, .undef, .undef, .undef, .undef, .undef, .undef, .undef, .undef, .undef, .undef, .undef, .undef, .undef, .undef, .undef, .undef, .undef, .undef, .undef, .undef, .undef, .undef, .undef, .undef], []⟩ = f10_N k c18 c20 c37 c38 c39 c40 c42 c43 c44 c45 (fun y0 => retF y0) :=
  (f10_e_mem k c18 c20 c37 c38 c39 c40 c42 c43 c44 c45 retF).trans (by rw [show (fun p2 p3 n29 => f10_w1A k c18 c20 c37 c38 c39 c40 c42 c43 c44 c45 retF p2 p3 n29) = (fun p2 p3 n29 => f10_w1N k c18 c20 c37 c38 c39 c40 c42 c43 c44 c45 (fun y0 => retF y0) p2 p3 n29) from funext fun p2 => funext fun p3 => funext fun n29 => f10_w1_eq k c18 c20 c37 c38 c39 c40 c42 c43 c44 c45 retF p2 p3 n29]; rfl)

noncomputable def G10 : Nat → (Bool → R) → R
  | 0, _ => none
  | k + 1, ret0 => f10_N k (G18 k) (G20 k) (G37 k) (G38 k) (G39 k) (G40 k) (G42 k) (G43 k) (G44 k) (G45 k) ret0 
theorem S10 : ∀ k, Snd Try.prog 10 f10_I f10_O (fun x ret => G10 k (fun y0 => ret y0))
  | 0 => snd_none
  | k + 1 => snd_step (E := f10_E k (G18 k) (G20 k) (G37 k) (G38 k) (G39 k) (G40 k) (G42 k) (G43 k) (G44 k) (G45 k)) rfl laidOut noNums (orc_ok (S18 k).o f18_D_ok (orc_ok (S20 k).o f20_D_ok (orc_ok (S37 k).o f37_D_ok (orc_ok (S38 k).o f38_D_ok (orc_ok (S39 k).o f39_D_ok (orc_ok (S40 k).o f40_D_ok (orc_ok (S42 k).o f42_D_ok (orc_ok (S43 k).o f43_D_ok (orc_ok (S44 k).o f44_D_ok (orc_ok (S45 k).o f45_D_ok orc0_ok)))))))))) (f := 10) (fn := Try.f10) (code := f10_code) Try.func10 (by kernel_rfl) (drawsOk_of laidOut (orc_ok (S18 k).o f18_D_ok (orc_ok (S20 k).o f20_D_ok (orc_ok (S37 k).o f37_D_ok (orc_ok (S38 k).o f38_D_ok (orc_ok (S39 k).o f39_D_ok (orc_ok (S40 k).o f40_D_ok (orc_ok (S42 k).o f42_D_ok (orc_ok (S43 k).o f43_D_ok (orc_ok (S44 k).o f44_D_ok (orc_ok (S45 k).o f45_D_ok orc0_ok)))))))))) mixed (by kernel_rfl)) f10_un f10_un_ok [] (fun _ => rfl)
      (fun x ret => f10_eq k (G18 k) (G20 k) (G37 k) (G38 k) (G39 k) (G40 k) (G42 k) (G43 k) (G44 k) (G45 k) ret)

end Go.Proofs.Ytifnlmfhbepjcaa
